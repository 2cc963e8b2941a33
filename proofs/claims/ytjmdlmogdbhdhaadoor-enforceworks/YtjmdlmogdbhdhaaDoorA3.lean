import Derived.Test.YtjmdlmogdbhdhaaDoorA2
/- Plain facts about what the printed functions compute: rounds that are enough ('Ev'), the reader of numbers, graphs that are valid, and toggling as a symmetric difference. -/
namespace Go.Proofs.YtjmdlmogdbhdhaaDoor.P
open Go.RowKit Go.Proofs.YtjmdlmogdbhdhaaDoorW.PrintWords Go.Proofs.YtjmdlmogdbhdhaaDoorW.PrintLast Go.Proofs.YtjmdlmogdbhdhaaDoorW.PrintMore
/-- With rounds enough it tells a. -/
def Ev {α : Type} (f : Nat → Option α) (a : α) : Prop := ∃ k, ∀ j, k ≤ j → f j = some a
theorem Ev.const {α : Type} (a : α) : Ev (fun _ => some a) a := ⟨0, fun _ _ => rfl⟩
theorem Ev.succ {α : Type} {f : Nat → Option α} {a : α} (h : Ev (fun k => f (k + 1)) a) : Ev f a := by
  obtain ⟨k, hk⟩ := h
  refine ⟨k + 1, fun j hj => ?_⟩
  obtain ⟨i, rfl⟩ : ∃ i, j = i + 1 := ⟨j - 1, by omega⟩
  exact hk i (by omega)
theorem Ev.bind {α β : Type} {f : Nat → Option α} {g : Nat → α → Option β} {a : α} {b : β} (h1 : Ev f a) (h2 : Ev (fun k => g k a) b) : Ev (fun k => (f k).bind (g k)) b := by
  obtain ⟨k1, h1⟩ := h1
  obtain ⟨k2, h2⟩ := h2
  refine ⟨max k1 k2, fun j hj => ?_⟩
  show (f j).bind (g j) = some b
  rw [h1 j (by omega)]
  exact h2 j (by omega)
theorem Ev.pos {α : Type} {c : Prop} [Decidable c] {f g : Nat → Option α} {a : α} (h : c) (hf : Ev f a) : Ev (fun k => if c then f k else g k) a := by
  simp only [if_pos h]
  exact hf
theorem Ev.neg {α : Type} {c : Prop} [Decidable c] {f g : Nat → Option α} {a : α} (h : ¬ c) (hg : Ev g a) : Ev (fun k => if c then f k else g k) a := by
  simp only [if_neg h]
  exact hg
theorem Ev.now {α : Type} {f : Nat → Option α} {a : α} (h : Ev f a) : ∃ k, f k = some a := by
  obtain ⟨k, hk⟩ := h
  exact ⟨k, hk k (Nat.le_refl _)⟩
theorem Ev.of_mono {α : Type} {f : Nat → Option α} {a : α} (hm : ∀ k, LeO (f k) (f (k + 1))) {k : Nat} (h : f k = some a) : Ev f a := by
  refine ⟨k, fun j hj => ?_⟩
  induction hj with
  | refl => exact h
  | step _ ih => exact hm _ _ ih
instance : DecidableEq S42 := fun a b => if h : a.f0 = b.f0 ∧ a.f1 = b.f1 then isTrue (by cases a; cases b; simp_all) else isFalse (fun e => h (by rw [e]; exact ⟨rfl, rfl⟩))
instance : Inhabited S42 := ⟨z42⟩
theorem wrap_id (x : Int) (h0 : -9223372036854775808 ≤ x) (h1 : x ≤ 9223372036854775807) : wrap64 x = x := by unfold wrap64; omega
theorem rdT_get (L : List S42) (i : Nat) (h : i < L.length) : rd_T42 L (i : Int) = L[i] := by simp [rd_T42, h]
theorem rd_get (L : List Int) (i : Nat) (h : i < L.length) : rd L (i : Int) = L[i] := by simp [rd, h]
/-! ### the reader -/
structure SOk (l : List Int) (p : Int) : Prop where
  h0 : 0 ≤ p
  h1 : p ≤ l.length
  h2 : l.length ≤ 2000
  h3 : ∀ x ∈ l, -9223372036854775808 ≤ x ∧ x ≤ 9223372036854775807
theorem new_ok (l : List Int) (hl : ∀ x ∈ l, (Lit.int .i64 x).wf = true) : ∃ l2, deliberationkeep_New.f l = some (l2, 0) ∧ SOk l2 0 := by
  refine ⟨l.take (mn (l.length : Int) 2000).toNat, ?_, ?_⟩
  · unfold deliberationkeep_New.f mn
    split
    · rw [if_pos (by omega), if_pos (by omega)]
    · rw [if_pos (by omega), if_pos (by omega)]
  · refine ⟨Int.le_refl _, by omega, ?_, ?_⟩
    · rw [List.length_take]
      unfold mn
      split <;> omega
    · intro x hx
      have := hl x (List.mem_of_mem_take hx)
      simp [Lit.wf, IntKind.min, IntKind.max, IntKind.signed, IntKind.bits] at this
      omega
theorem raw_ok {l : List Int} {p : Int} (h : SOk l p) : ∃ v q, deliberationkeep_Src_Raw.f l p = some (v, q) ∧ SOk l q ∧ -9223372036854775808 ≤ v ∧ v ≤ 9223372036854775807 := by
  obtain ⟨h0, h1, h2, h3⟩ := h
  unfold deliberationkeep_Src_Raw.f
  by_cases hp : p ≥ (l.length : Int)
  · rw [if_pos hp]
    exact ⟨0, p, rfl, ⟨h0, h1, h2, h3⟩, by omega, by omega⟩
  · rw [if_neg hp, wrap_id (p + 1) (by omega) (by omega), wrap_id (p + 1 - 1) (by omega) (by omega), if_pos (by omega), if_pos (by omega)]
    obtain ⟨i, rfl⟩ : ∃ i : Nat, p = i := ⟨p.toNat, by omega⟩
    have hi : i < l.length := by omega
    have := h3 _ (List.getElem_mem hi)
    refine ⟨_, _, rfl, ⟨by omega, by omega, h2, h3⟩, ?_⟩
    rw [show (i : Int) + 1 - 1 = (i : Int) by omega, rd_get l i hi]
    exact this
theorem mod_ok (v n : Int) (h0 : -9223372036854775808 ≤ v) (h1 : v ≤ 9223372036854775807) (hn : 1 ≤ n) (hn2 : n ≤ 1000000) : ∃ r, deliberationkeep_Mod.f v n = some r ∧ 0 ≤ r ∧ r < n := by
  unfold deliberationkeep_Mod.f
  rw [if_neg (by omega), if_neg (by omega)]
  have hb1 : Int.tmod v n < n := Int.tmod_lt_of_pos v (by omega)
  have hb2 : -n < Int.tmod v n := by
    have := Int.tmod_lt_of_pos (-v) (show 0 < n by omega)
    rw [Int.neg_tmod] at this
    omega
  split
  · rw [wrap_id _ (by omega) (by omega)]
    exact ⟨_, rfl, by omega, by omega⟩
  · exact ⟨_, rfl, by omega, hb1⟩
theorem n_ok {l : List Int} {p : Int} (h : SOk l p) (n : Int) (hn : 1 ≤ n) (hn2 : n ≤ 1000000) : ∃ v q, deliberationkeep_Src_N.f l p n = some (v, q) ∧ SOk l q ∧ 0 ≤ v ∧ v < n := by
  obtain ⟨v, q, e1, hq, b1, b2⟩ := raw_ok h
  obtain ⟨r, e2, b3, b4⟩ := mod_ok v n b1 b2 hn hn2
  refine ⟨r, q, ?_, hq, b3, b4⟩
  unfold deliberationkeep_Src_N.f
  rw [e1]
  show (deliberationkeep_Mod.f v n).bind _ = _
  rw [e2]
  rfl
theorem range_ok {l : List Int} {p : Int} (h : SOk l p) (a b : Int) (h0 : 0 ≤ a) (hab : a ≤ b) (hb : b ≤ 1000) : ∃ v q, deliberationkeep_Src_Range.f l p a b = some (v, q) ∧ SOk l q ∧ a ≤ v ∧ v ≤ b := by
  obtain ⟨v, q, e1, hq, b1, b2⟩ := n_ok h (b - a + 1) (by omega) (by omega)
  refine ⟨a + v, q, ?_, hq, by omega, by omega⟩
  unfold deliberationkeep_Src_Range.f
  rw [wrap_id (b - a) (by omega) (by omega), wrap_id (b - a + 1) (by omega) (by omega), e1]
  show some (wrap64 (a + v), q) = _
  rw [wrap_id (a + v) (by omega) (by omega)]
/-! ### valid graphs -/
def ltS (p q : S42) : Prop := p.f0 < q.f0 ∨ (p.f0 = q.f0 ∧ p.f1 < q.f1)
def InR (N : Int) (l : List S42) : Prop := ∀ p ∈ l, 0 ≤ p.f0 ∧ p.f0 < N ∧ 0 ≤ p.f1 ∧ p.f1 < N
structure GoodG (N : Int) (L : List S42) : Prop where
  n0 : 0 ≤ N
  n1 : N ≤ 40
  inr : InR N L
  ord : L.Pairwise ltS
theorem ltS_ne {p q : S42} (h : ltS p q) : p ≠ q := by
  rintro rfl
  unfold ltS at h
  omega
theorem ord_nodup {L : List S42} (h : L.Pairwise ltS) : L.Nodup := List.nodup_iff_pairwise_ne.2 (h.imp (fun h => ltS_ne h))
theorem ord_unique {L M : List S42} (h1 : L.Pairwise ltS) (h2 : M.Pairwise ltS) (h : ∀ p, p ∈ L ↔ p ∈ M) : L = M :=
  List.Perm.eq_of_pairwise (le := ltS) (fun a b _ _ h1 h2 => by cases a; cases b; simp only [ltS] at h1 h2; omega) h1 h2 ((List.perm_ext_iff_of_nodup (ord_nodup h1) (ord_nodup h2)).2 h)
theorem ints_len : ∀ (l : List Int) (a b : Int), a ≤ b → l.Pairwise (· < ·) → (∀ x ∈ l, a ≤ x ∧ x < b) → (l.length : Int) ≤ b - a
  | [], a, b, hab, _, _ => by simp; omega
  | x :: r, a, b, hab, hp, hb => by
    rw [List.pairwise_cons] at hp
    have hx := hb x (by simp)
    have := ints_len r (x + 1) b (by omega) hp.2 (fun y hy => ⟨by have := hp.1 y hy; omega, (hb y (by simp [hy])).2⟩)
    simp
    omega
theorem codes_lt {N : Int} (hN : N ≤ 40) {p q : S42} (hp : 0 ≤ p.f0 ∧ p.f0 < N ∧ 0 ≤ p.f1 ∧ p.f1 < N) (hq : 0 ≤ q.f0 ∧ q.f0 < N ∧ 0 ≤ q.f1 ∧ q.f1 < N) (h : ltS p q) : p.f0 * 40 + p.f1 < q.f0 * 40 + q.f1 := by
  unfold ltS at h
  omega
theorem good_len {N : Int} {L : List S42} (h : GoodG N L) : L.length ≤ 1600 := by
  have h1 : (L.map fun p => p.f0 * 40 + p.f1).Pairwise (· < ·) := by
    rw [List.pairwise_map]
    exact List.Pairwise.imp_of_mem (fun hp hq hl => codes_lt h.n1 (h.inr _ hp) (h.inr _ hq) hl) h.ord
  have h2 := ints_len _ 0 1600 (by omega) h1 (by
    intro x hx
    obtain ⟨p, hp, rfl⟩ := List.mem_map.1 hx
    have := h.inr p hp
    have := h.n1
    omega)
  rw [List.length_map] at h2
  omega
def cmpV (a b : Int) : Int := if a < b then -1 else if a > b then 1 else 0
theorem cmp_f (a b : Int) : cmp_Compare_int.f a b = some (cmpV a b) := by
  unfold cmp_Compare_int.f cmp_isNaN_int.f cmpV
  simp
  split
  · rfl
  · split <;> rfl
theorem or_ev (a b : Int) : Ev (fun k => cmp_Or_int.f k [a, b]) (if a = 0 then b else a) := by
  unfold cmp_Or_int.f
  refine Ev.succ ?_
  simp only [cmp_Or_int.l0]
  rw [show (([a, b] : List Int).length : Int) = 2 from rfl]
  simp only [show ((0 : Int) < 2) = True from by simp, if_true, Int.le_refl, show rd [a, b] 0 = a from rfl]
  by_cases ha : a = 0
  · simp only [ha, if_true]
    rw [wrap_id (0 + 1) (by omega) (by omega)]
    refine Ev.succ ?_
    simp only [cmp_Or_int.l0]
    simp only [show ((0 : Int) + 1 < 2) = True from by simp, show ((0 : Int) ≤ 0 + 1) = True from by simp, if_true, show ([0, b] : List Int).length = 2 from rfl, show ((0 : Int) + 1 < ((2 : Nat) : Int)) = True from by simp, show rd [0, b] (0 + 1) = b from rfl]
    by_cases hb : b = 0
    · simp only [hb, if_true]
      rw [wrap_id (0 + 1 + 1) (by omega) (by omega)]
      refine Ev.succ ?_
      simp only [cmp_Or_int.l0]
      exact Ev.const _
    · simp only [hb, if_false]
      exact Ev.const _
  · simp only [ha, if_false]
    exact Ev.const _
theorem gcmp_ev (p q : S42) : Ev (fun k => graph_compare.f k p.f0 p.f1 q.f0 q.f1) (if cmpV p.f0 q.f0 = 0 then cmpV p.f1 q.f1 else cmpV p.f0 q.f0) := by
  simp only [graph_compare.f, cmp_f, Option.bind_some]
  exact Ev.bind (or_ev _ _) (Ev.const _)
theorem gcmp_lt {p q : S42} (h : ltS p q) : (if cmpV p.f0 q.f0 = 0 then cmpV p.f1 q.f1 else cmpV p.f0 q.f0) = -1 := by
  unfold ltS at h
  unfold cmpV
  rcases h with h | ⟨h1, h2⟩
  · simp [h]
  · simp [h1, h2]
theorem valid_l0 {N : Int} {L : List S42} (h : GoodG N L) : ∀ (n i : Nat), n + i = L.length → Ev (fun k => graph_Validate.l0 k L (L.length : Int) (i : Int) N L) 0
  | 0, i, hi => by
    refine Ev.succ ?_
    simp only [graph_Validate.l0]
    exact Ev.neg (by omega) (Ev.const _)
  | n + 1, i, hi => by
    have hl := good_len h
    have hlt : i < L.length := by omega
    have ih := valid_l0 h n (i + 1) (by omega)
    have hw : wrap64 ((i : Int) + 1) = ((i + 1 : Nat) : Int) := by rw [wrap_id _ (by omega) (by omega)]; rfl
    have hr := h.inr _ (List.getElem_mem hlt)
    refine Ev.succ ?_
    simp only [graph_Validate.l0, rdT_get L i hlt]
    refine Ev.pos (by omega) (Ev.pos (by omega) (Ev.pos (by omega) (Ev.neg (by unfold mn; split <;> omega) ?_)))
    rw [decide_eq_false (by unfold mx; split <;> omega)]
    refine Ev.succ ?_
    simp only [graph_Validate.j2, hw]
    refine Ev.neg (by simp) ?_
    cases i with
    | zero => exact Ev.neg (by omega) ih
    | succ i =>
      have hi' : i < L.length := by omega
      have hw2 : wrap64 (((i + 1 : Nat) : Int) - 1) = (i : Int) := by rw [wrap_id _ (by omega) (by omega)]; omega
      have ho : ltS L[i] L[i + 1] := List.pairwise_iff_getElem.1 h.ord i (i + 1) hi' hlt (by omega)
      simp only [hw2, rdT_get L i hi']
      refine Ev.pos (by omega) (Ev.pos (by omega) (Ev.pos (by omega) (Ev.bind (gcmp_ev _ _) ?_)))
      rw [gcmp_lt ho]
      exact Ev.neg (by omega) ih
theorem valid_ev {N : Int} {L : List S42} (h : GoodG N L) : Ev (fun k => graph_Validate.f k N L) 0 := by
  have h0 := h.n0
  have h1 := h.n1
  simp only [graph_Validate.f]
  refine Ev.neg (by omega) ?_
  rw [decide_eq_false (by omega)]
  refine Ev.succ ?_
  simp only [graph_Validate.j0]
  exact Ev.neg (by simp) (valid_l0 h L.length 0 (by omega))
end Go.Proofs.YtjmdlmogdbhdhaaDoor.P
/- Plain facts: the graphs and pairs that are read off numbers; membership; equality; toggling as a symmetric difference. -/
namespace Go.Proofs.YtjmdlmogdbhdhaaDoor.P
open Go.RowKit Go.Proofs.YtjmdlmogdbhdhaaDoorW.PrintWords Go.Proofs.YtjmdlmogdbhdhaaDoorW.PrintLast Go.Proofs.YtjmdlmogdbhdhaaDoorW.PrintMore
structure GL (N : Int) (L : List S42) (a b : Int) : Prop where
  inr : InR N L
  ord : L.Pairwise ltS
  lt : ∀ p ∈ L, ltS p ⟨a, b⟩
theorem GL.good {N : Int} {L : List S42} {a b : Int} (h : GL N L a b) (h0 : 0 ≤ N) (h1 : N ≤ 40) : GoodG N L := ⟨h0, h1, h.inr, h.ord⟩
theorem GL.next {N : Int} {L : List S42} {a b : Int} (h : GL N L a b) : GL N L a (b + 1) := ⟨h.inr, h.ord, fun p hp => by have := h.lt p hp; simp only [ltS] at *; omega⟩
theorem GL.put {N : Int} {L : List S42} {a b : Int} (h : GL N L a b) (ha : 0 ≤ a) (ha1 : a < N) (hb : 0 ≤ b) (hb1 : b < N) : GL N (L ++ [⟨a, b⟩]) a (b + 1) := by
  refine ⟨?_, ?_, ?_⟩
  · intro p hp
    rcases List.mem_append.1 hp with hp | hp
    · exact h.inr p hp
    · obtain rfl := List.mem_singleton.1 hp
      exact ⟨ha, ha1, hb, hb1⟩
  · rw [List.pairwise_append]
    refine ⟨h.ord, List.pairwise_singleton _ _, fun p hp q hq => ?_⟩
    obtain rfl := List.mem_singleton.1 hq
    exact h.lt p hp
  · intro p hp
    rcases List.mem_append.1 hp with hp | hp
    · have := h.lt p hp
      simp only [ltS] at *
      omega
    · obtain rfl := List.mem_singleton.1 hp
      exact .inr ⟨rfl, by show b < b + 1; omega⟩
theorem GL.row {N : Int} {L : List S42} {a b : Int} (h : GL N L a b) (c : Int) : GL N L (a + 1) c := ⟨h.inr, h.ord, fun p hp => by have := h.lt p hp; simp only [ltS] at *; omega⟩
theorem graph_l1 {l : List Int} {d N : Int} (hd : 2 ≤ d ∧ d ≤ 5) (hN : 1 ≤ N ∧ N ≤ 40) (a : Nat) (ha : (a : Int) < N)
    (ih0 : ∀ p L, SOk l p → GL N L ((a + 1 : Nat) : Int) 0 → ∃ L' q, Ev (fun k => deliberationnet_Graph.l0 k d ((a + 1 : Nat) : Int) l p N L) (N, L', q) ∧ SOk l q ∧ GoodG N L') :
    ∀ (n b : Nat), ((n + b : Nat) : Int) = N → ∀ p L, SOk l p → GL N L a b → ∃ L' q, Ev (fun k => deliberationnet_Graph.l1 k d (a : Int) (b : Int) l p N L) (N, L', q) ∧ SOk l q ∧ GoodG N L'
  | 0, b, hb, p, L, hp, hL => by
    obtain ⟨L', q, e, hq, hg⟩ := ih0 p L hp (by have := hL.row 0; exact this)
    refine ⟨L', q, Ev.succ ?_, hq, hg⟩
    have hw : wrap64 ((a : Int) + 1) = ((a + 1 : Nat) : Int) := by rw [wrap_id _ (by omega) (by omega)]; rfl
    simp only [deliberationnet_Graph.l1, hw]
    exact Ev.neg (by omega) e
  | n + 1, b, hb, p, L, hp, hL => by
    have ihn := graph_l1 hd hN a ha ih0 n (b + 1) (by omega)
    have hw : wrap64 ((b : Int) + 1) = ((b + 1 : Nat) : Int) := by rw [wrap_id _ (by omega) (by omega)]; rfl
    have hlen := good_len (hL.good (by omega) hN.2)
    have fin : ∀ (m : Int), 1 ≤ m → m ≤ 100 → ∃ L' q, Ev (fun k => (deliberationkeep_Src_N.f l p m).bind fun bt => (if bt.1 = 1 then (if L.length < 8796093022208 then (deliberationnet_Graph.l1 k d (a : Int) ((b + 1 : Nat) : Int) l bt.2 N (L ++ [(⟨(a : Int), (b : Int)⟩ : S42)])) else (none)) else (deliberationnet_Graph.l1 k d (a : Int) ((b + 1 : Nat) : Int) l bt.2 N L))) (N, L', q) ∧ SOk l q ∧ GoodG N L' := by
      intro m hm hm2
      obtain ⟨v, q, e, hq, _, _⟩ := n_ok hp m hm (by omega)
      simp only [e, Option.bind_some]
      by_cases hv : v = 1
      · obtain ⟨L', q', e2, h2, h3⟩ := ihn q (L ++ [⟨a, b⟩]) hq (hL.put (by omega) ha (by omega) (by omega))
        exact ⟨L', q', Ev.pos hv (Ev.pos (by omega) e2), h2, h3⟩
      · obtain ⟨L', q', e2, h2, h3⟩ := ihn q L hq hL.next
        exact ⟨L', q', Ev.neg hv e2, h2, h3⟩
    by_cases hab : (a : Int) = (b : Int)
    · obtain ⟨L', q, e, hq, hg⟩ := fin 9 (by omega) (by omega)
      refine ⟨L', q, Ev.succ ?_, hq, hg⟩
      simp only [deliberationnet_Graph.l1, hw]
      exact Ev.pos (by omega) (Ev.pos hab e)
    · obtain ⟨L', q, e, hq, hg⟩ := fin d (by omega) (by omega)
      refine ⟨L', q, Ev.succ ?_, hq, hg⟩
      simp only [deliberationnet_Graph.l1, hw]
      exact Ev.pos (by omega) (Ev.neg hab e)
theorem graph_l0 {l : List Int} {d N : Int} (hd : 2 ≤ d ∧ d ≤ 5) (hN : 1 ≤ N ∧ N ≤ 40) :
    ∀ (n a : Nat), ((n + a : Nat) : Int) = N → ∀ p L, SOk l p → GL N L a 0 → ∃ L' q, Ev (fun k => deliberationnet_Graph.l0 k d (a : Int) l p N L) (N, L', q) ∧ SOk l q ∧ GoodG N L'
  | 0, a, ha, p, L, hp, hL => by
    refine ⟨L, p, Ev.succ ?_, hp, hL.good (by omega) hN.2⟩
    simp only [deliberationnet_Graph.l0]
    exact Ev.neg (by omega) (Ev.const _)
  | n + 1, a, ha, p, L, hp, hL => by
    have hn : ((N.toNat + 0 : Nat) : Int) = N := by omega
    obtain ⟨L', q, e, hq, hg⟩ := graph_l1 hd hN a (by omega) (fun p L h1 h2 => graph_l0 hd hN n (a + 1) (by omega) p L h1 h2) N.toNat 0 hn p L hp hL
    refine ⟨L', q, Ev.succ ?_, hq, hg⟩
    simp only [deliberationnet_Graph.l0]
    exact Ev.pos (by omega) e
theorem graph_ok {l : List Int} {p : Int} (h : SOk l p) (n : Int) (h1 : 1 ≤ n) (h2 : n ≤ 40) : ∃ N L q, Ev (fun k => deliberationnet_Graph.f k l p n) (N, L, q) ∧ SOk l q ∧ GoodG N L ∧ 1 ≤ N ∧ N ≤ n := by
  obtain ⟨N, q1, e1, hq1, b1, b2⟩ := range_ok h 1 n (by omega) h1 (by omega)
  obtain ⟨d, q2, e2, hq2, b3, b4⟩ := range_ok hq1 2 5 (by omega) (by omega) (by omega)
  obtain ⟨L, q, e3, hq, hg⟩ := graph_l0 (l := l) (d := d) (N := N) ⟨b3, b4⟩ ⟨b1, by omega⟩ N.toNat 0 (by omega) q2 [] hq2 ⟨by intro p hp; simp at hp, List.Pairwise.nil, by intro p hp; simp at hp⟩
  refine ⟨N, L, q, ?_, hq, hg, b1, b2⟩
  simp only [deliberationnet_Graph.f, e1, e2, Option.bind_some]
  exact e3
theorem pairs_l0 {l : List Int} {N : Int} (hN : 1 ≤ N ∧ N ≤ 40) : ∀ (n : Nat), n ≤ 4 → ∀ p ps, SOk l p → InR N ps → ps.length + n ≤ 4 → ∃ ps' q, Ev (fun k => deliberationlaw21_pairs.l0 k N ps (n : Int) l p) (ps', q) ∧ SOk l q ∧ InR N ps' ∧ ps'.length ≤ 4
  | 0, _, p, ps, hp, hr, hl => by
    refine ⟨ps, p, Ev.succ ?_, hp, hr, by omega⟩
    simp only [deliberationlaw21_pairs.l0]
    exact Ev.neg (by omega) (Ev.const _)
  | n + 1, hn, p, ps, hp, hr, hl => by
    obtain ⟨u, q1, e1, hq1, b1, b2⟩ := n_ok hp N hN.1 (by omega)
    obtain ⟨v, q2, e2, hq2, b3, b4⟩ := n_ok hq1 N hN.1 (by omega)
    obtain ⟨ps', q, e3, hq, hr', hl'⟩ := pairs_l0 hN n (by omega) q2 (ps ++ [⟨u, v⟩]) hq2 (by
      intro x hx
      rcases List.mem_append.1 hx with hx | hx
      · exact hr x hx
      · obtain rfl := List.mem_singleton.1 hx
        exact ⟨b1, b2, b3, b4⟩) (by simp; omega)
    refine ⟨ps', q, Ev.succ ?_, hq, hr', hl'⟩
    have hw : wrap64 (((n + 1 : Nat) : Int) - 1) = (n : Int) := by rw [wrap_id _ (by omega) (by omega)]; omega
    simp only [deliberationlaw21_pairs.l0, e1, e2, Option.bind_some, hw]
    exact Ev.pos (by omega) (Ev.pos (by omega) e3)
theorem pairs_ok {l : List Int} {p N : Int} (h : SOk l p) (hN : 1 ≤ N ∧ N ≤ 40) : ∃ ps q, Ev (fun k => deliberationlaw21_pairs.f k l p N) (ps, q) ∧ SOk l q ∧ InR N ps ∧ ps.length ≤ 4 := by
  obtain ⟨n, q1, e1, hq1, b1, b2⟩ := n_ok h 5 (by omega) (by omega)
  obtain ⟨ps, q, e2, hq, hr, hl⟩ := pairs_l0 (l := l) hN n.toNat (by omega) q1 [] hq1 (by intro x hx; simp at hx) (by simp; omega)
  refine ⟨ps, q, ?_, hq, hr, hl⟩
  simp only [deliberationlaw21_pairs.f, e1, Option.bind_some]
  rw [show ((n.toNat : Nat) : Int) = n by omega] at e2
  exact e2
theorem has_l0 (l : List S42) (x : S42) (hl : l.length ≤ 1000000) : ∀ (n i : Nat), n + i = l.length → Ev (fun k => deliberationref21_Has.l0 k l (i : Int) x.f0 x.f1) (decide (x ∈ l.drop i))
  | 0, i, hi => by
    refine Ev.succ ?_
    simp only [deliberationref21_Has.l0]
    refine Ev.neg (by omega) ?_
    rw [List.drop_eq_nil_of_le (by omega)]
    exact Ev.const _
  | n + 1, i, hi => by
    have hlt : i < l.length := by omega
    have hw : wrap64 ((i : Int) + 1) = ((i + 1 : Nat) : Int) := by rw [wrap_id _ (by omega) (by omega)]; rfl
    have ih := has_l0 l x hl n (i + 1) (by omega)
    refine Ev.succ ?_
    simp only [deliberationref21_Has.l0, rdT_get l i hlt, hw]
    refine Ev.pos (by omega) (Ev.pos (by omega) ?_)
    rw [List.drop_eq_getElem_cons hlt]
    by_cases he : (l[i].f0 == x.f0 && l[i].f1 == x.f1) = true
    · refine Ev.pos he ?_
      have hx : x = l[i] := ((eqS_iff l[i] x).1 he).symm
      rw [decide_eq_true (by rw [← hx]; exact List.mem_cons_self)]
      exact Ev.const _
    · refine Ev.neg he ?_
      have hx : ¬ x = l[i] := fun hx => he ((eqS_iff l[i] x).2 hx.symm)
      rw [show decide (x ∈ l[i] :: l.drop (i + 1)) = decide (x ∈ l.drop (i + 1)) from decide_eq_decide.2 ⟨fun h => (List.mem_cons.1 h).resolve_left hx, List.mem_cons_of_mem _⟩]
      exact ih
theorem has_ev (l : List S42) (a b : Int) (hl : l.length ≤ 1000000) : Ev (fun k => deliberationref21_Has.f k l a b) (decide ((⟨a, b⟩ : S42) ∈ l)) := by
  have := has_l0 l ⟨a, b⟩ hl l.length 0 (by omega)
  rw [List.drop_zero] at this
  exact this
theorem pairs_same_l0 (l : List S42) (hl : l.length ≤ 1000000) : ∀ (n i : Nat), n + i = l.length → Ev (fun k => deliberationnet_Pairs.l0 k l l (i : Int)) true
  | 0, i, hi => by
    refine Ev.succ ?_
    simp only [deliberationnet_Pairs.l0]
    exact Ev.neg (by omega) (Ev.const _)
  | n + 1, i, hi => by
    have hw : wrap64 ((i : Int) + 1) = ((i + 1 : Nat) : Int) := by rw [wrap_id _ (by omega) (by omega)]; rfl
    have ih := pairs_same_l0 l hl n (i + 1) (by omega)
    refine Ev.succ ?_
    simp only [deliberationnet_Pairs.l0, hw]
    exact Ev.pos (by omega) (Ev.pos (by omega) (Ev.pos (by omega) (Ev.neg (by simp) ih)))
theorem pairs_same_ev (l : List S42) (hl : l.length ≤ 1000000) : Ev (fun k => deliberationnet_Pairs.f k l l) true := by
  simp only [deliberationnet_Pairs.f]
  exact Ev.pos trivial (pairs_same_l0 l hl l.length 0 (by omega))
theorem same_ev (N : Int) (l : List S42) (hl : l.length ≤ 1000000) : Ev (fun k => deliberationnet_Same.f k N l N l) true := by
  simp only [deliberationnet_Same.f]
  exact Ev.pos trivial (Ev.bind (pairs_same_ev l hl) (Ev.const _))
/-! ### toggling -/
theorem mget_mput (m : List (S42 × Bool)) (x y : S42) (v : Bool) : mget (mput m x v) y = if y = x then v else mget m y := by
  induction m with
  | nil =>
    simp only [mput, mget, eqS_iff]
  | cons a r ih =>
    obtain ⟨z, u⟩ := a
    simp only [mput]
    by_cases hz : eqS x z = true
    · rw [if_pos hz]
      obtain rfl := (eqS_iff x z).1 hz
      simp only [mget, eqS_iff]
      by_cases hy : y = x
      · simp [hy]
      · simp [hy]
    · rw [if_neg hz]
      have hz' : ¬ x = z := fun e => hz ((eqS_iff x z).2 e)
      simp only [mget, eqS_iff, ih]
      by_cases hy : y = z
      · subst hy
        have : ¬ y = x := fun e => hz' e.symm
        simp [this]
      · simp [hy]
theorem mput_keys (m : List (S42 × Bool)) (x : S42) (v : Bool) : (mput m x v).map (·.1) = if x ∈ m.map (·.1) then m.map (·.1) else m.map (·.1) ++ [x] := by
  induction m with
  | nil => simp [mput]
  | cons a r ih =>
    obtain ⟨z, u⟩ := a
    simp only [mput]
    by_cases hz : eqS x z = true
    · rw [if_pos hz]
      obtain rfl := (eqS_iff x z).1 hz
      simp
    · rw [if_neg hz]
      have hz' : ¬ x = z := fun e => hz ((eqS_iff x z).2 e)
      simp only [List.map_cons, ih, List.mem_cons, hz', false_or]
      by_cases hm : x ∈ r.map (·.1)
      · rw [if_pos hm, if_pos hm]
      · rw [if_neg hm, if_neg hm]
        rfl
def KN (m : List (S42 × Bool)) : Prop := (m.map (·.1)).Nodup
theorem KN.put {m : List (S42 × Bool)} (h : KN m) (x : S42) (v : Bool) : KN (mput m x v) := by
  unfold KN at *
  rw [mput_keys]
  split
  · exact h
  · rename_i hx
    rw [List.nodup_append]
    refine ⟨h, by simp, fun a ha b hb => ?_⟩
    obtain rfl := List.mem_singleton.1 hb
    rintro rfl
    exact hx ha
theorem mget_mem : ∀ {m : List (S42 × Bool)}, KN m → ∀ p, (p, true) ∈ m ↔ mget m p = true
  | [], _, p => by simp [mget]
  | (z, u) :: r, h, p => by
    unfold KN at h
    rw [List.map_cons, List.nodup_cons] at h
    have ih := mget_mem (m := r) h.2 p
    simp only [mget]
    by_cases hz : eqS p z = true
    · rw [if_pos hz]
      obtain rfl := (eqS_iff p z).1 hz
      have hn : ¬ (p, true) ∈ r := fun hm => h.1 (List.mem_map.2 ⟨_, hm, rfl⟩)
      rw [List.mem_cons]
      constructor
      · rintro (e | e)
        · exact (Prod.mk.inj e).2.symm
        · exact absurd e hn
      · intro hu
        exact .inl (by rw [hu])
    · rw [if_neg hz, List.mem_cons, ← ih]
      have hz' : ¬ p = z := fun e => hz ((eqS_iff p z).2 e)
      constructor
      · rintro (e | e)
        · exact absurd (Prod.mk.inj e).1 hz'
        · exact e
      · exact .inr
theorem togOut_mem {m : List (S42 × Bool)} (h : KN m) (p : S42) : p ∈ togOut m ↔ mget m p = true := by
  rw [← mget_mem h]
  unfold togOut
  simp only [List.mem_map, List.mem_filter]
  constructor
  · rintro ⟨⟨q, u⟩, ⟨h1, h2⟩, rfl⟩
    simp only at h2
    subst h2
    exact h1
  · intro hp
    exact ⟨(p, true), ⟨hp, rfl⟩, rfl⟩
theorem togOut_nodup {m : List (S42 × Bool)} (h : KN m) : (togOut m).Nodup := List.Nodup.sublist (List.filter_sublist.map _) h
theorem tog1_facts (l : List S42) : KN (tog1 l) ∧ ∀ p, mget (tog1 l) p = decide (p ∈ l) := by
  have h : ∀ (l : List S42) (m : List (S42 × Bool)), KN m → KN (l.foldl (fun m p => mput m p true) m) ∧ ∀ p, mget (l.foldl (fun m p => mput m p true) m) p = (decide (p ∈ l) || mget m p) := by
    intro l
    induction l with
    | nil => intro m hm; exact ⟨hm, fun p => by simp⟩
    | cons x r ih =>
      intro m hm
      obtain ⟨h1, h2⟩ := ih (mput m x true) (hm.put x true)
      refine ⟨h1, fun p => ?_⟩
      simp only [List.foldl_cons, h2, mget_mput, List.mem_cons]
      by_cases hp : p = x
      · simp [hp]
      · simp [hp]
  obtain ⟨h1, h2⟩ := h l [] (by simp [KN])
  exact ⟨h1, fun p => by have := h2 p; simpa [tog1, mget] using this⟩
theorem tog3_facts : ∀ (l : List S42) (seen there : List (S42 × Bool)), l.Nodup → (∀ p ∈ l, mget seen p = false) → KN there → ∃ m, tog3 l seen there = some m ∧ KN m ∧ ∀ p, mget m p = (mget there p != decide (p ∈ l))
  | [], seen, there, _, _, hk => ⟨there, rfl, hk, fun p => by simp⟩
  | x :: r, seen, there, hn, hs, hk => by
    rw [List.nodup_cons] at hn
    obtain ⟨m, e, hkm, hm⟩ := tog3_facts r (mput seen x true) (mput there x (!mget there x)) hn.2 (fun p hp => by
      rw [mget_mput, if_neg (by rintro rfl; exact hn.1 hp)]
      exact hs p (by simp [hp])) (hk.put _ _)
    refine ⟨m, ?_, hkm, fun p => ?_⟩
    · simp only [tog3, hs x (by simp), Bool.false_eq_true, if_false]
      exact e
    · rw [hm, mget_mput]
      by_cases hp : p = x
      · subst hp
        simp [hn.1]
      · simp [hp]
theorem sort_good {l : List S42} (h : l.Nodup) : (isP l).Pairwise ltS := by
  rw [isP_eq]
  have h1 := List.pairwise_mergeSort leP_trans leP_total l
  have h2 : (l.mergeSort leP).Nodup := (List.mergeSort_perm l leP).nodup_iff.2 h
  refine (h1.and (List.nodup_iff_pairwise_ne.1 h2)).imp ?_
  rintro ⟨a, b⟩ ⟨c, d⟩ ⟨h3, h4⟩
  simp [leP] at h3
  have h5 : ¬ (a = c ∧ b = d) := fun e => h4 (by rw [e.1, e.2])
  simp only [ltS]
  omega
/-- Toggling: the symmetric difference, in order. -/
def SymD (L l R : List S42) : Prop := ∀ p, p ∈ R ↔ ((p ∈ L ∧ ¬ p ∈ l) ∨ (¬ p ∈ L ∧ p ∈ l))
theorem toggle_ok {N : Int} {L l : List S42} (hG : GoodG N L) (hl : InR N l) (hn : l.Nodup) (hlen : l.length ≤ 10000) : ∃ R, GoodG N R ∧ SymD L l R ∧ Ev (fun k => enforce_Toggle.f k N L l) (N, R, 0) := by
  obtain ⟨hk1, h1⟩ := tog1_facts L
  obtain ⟨m, e, hkm, hm⟩ := tog3_facts l [] (tog1 L) hn (fun p _ => rfl) hk1
  have hmem : SymD L l (isP (togOut m)) := by
    intro p
    rw [isP_eq, List.mem_mergeSort, togOut_mem hkm, hm, h1]
    by_cases ha : p ∈ L <;> by_cases hb : p ∈ l <;> simp [ha, hb]
  have hord := sort_good (togOut_nodup hkm)
  refine ⟨isP (togOut m), ⟨hG.n0, hG.n1, fun p hp => ?_, hord⟩, hmem, ?_⟩
  · rcases (hmem p).1 hp with ⟨h3, _⟩ | ⟨_, h3⟩
    · exact hG.inr p h3
    · exact hl p h3
  · have hgl := good_len hG
    simp only [enforce_Toggle.f]
    refine Ev.bind (valid_ev hG) ?_
    refine Ev.pos rfl (Ev.pos (by omega) (Ev.neg ?_ ?_))
    · rw [List.any_eq_true]
      rintro ⟨p, hp, hb⟩
      have := hl p hp
      simp [rangeBad] at hb
      omega
    · rw [e]
      exact Ev.const _
theorem symD_unique {L l R R' : List S42} (h1 : R.Pairwise ltS) (h2 : R'.Pairwise ltS) (h3 : SymD L l R) (h4 : SymD L l R') : R = R' := ord_unique h1 h2 (fun p => (h3 p).trans (h4 p).symm)
end Go.Proofs.YtjmdlmogdbhdhaaDoor.P
namespace Go.Proofs.YtjmdlmogdbhdhaaDoor.P
open Go.RowKit Go.Proofs.YtjmdlmogdbhdhaaDoorW.PrintWords Go.Proofs.YtjmdlmogdbhdhaaDoorW.PrintLast Go.Proofs.YtjmdlmogdbhdhaaDoorW.PrintMore
attribute [local go_sem] max2_int min2_int max_two min_two max_three min_three max_four min_four
set_option linter.unusedVariables false
set_option linter.unusedSimpArgs false
def network_Set_Has.f (a0 : Int) (a1 : Int) : Option (Bool) := if 0 ≤ (IntKind.u64.wrap (a1)) then (some ((Go.bits .and .u64 (shr .u64 a0 (IntKind.u64.wrap (a1))) 1) == 1)) else (none)
set_option maxHeartbeats 8000000 in
set_option maxRecDepth 100000 in
theorem network_Set_Has.calls (a0 : Int) (a1 : Int) (r : Bool) (w : World) (h : network_Set_Has.f a0 a1 = some r) :
 Calls Tryd.prog 77 #[.int .u64 a0, .int .i64 a1] w fun e w' => e = .returned (.bool r) ∧ Drawn0 w w' := by
 have H : (if 0 ≤ (IntKind.u64.wrap (a1)) then (some ((Go.bits .and .u64 (shr .u64 a0 (IntKind.u64.wrap (a1))) 1) == 1)) else (none)) = some r := h; clear h; obtain ⟨ji3, hji3⟩ : ∃ j_ : Int, (IntKind.u64.wrap (a1)) = j_ := ⟨_, rfl⟩; replace H : (if 0 ≤ (ji3) then (some ((Go.bits .and .u64 (shr .u64 a0 (ji3)) 1) == 1)) else (none)) = some r := by first | (rw [hji3] at H; exact H) | (simp only [hji3] at H ⊢; exact H)
 by_cases c4 : 0 ≤ (ji3)
 · rw [if_pos c4] at H; have c4b0 := eq_true c4; have c4b1 : decide (0 ≤ (ji3)) = true := decide_eq_true c4; clear c4; obtain ⟨ji5, hji5⟩ : ∃ j_ : Int, (shr .u64 a0 (ji3)) = j_ := ⟨_, rfl⟩; replace H : (some ((Go.bits .and .u64 (ji5) 1) == 1)) = some r := by first | (rw [hji5] at H; exact H) | (simp only [hji5] at H ⊢; exact H)
   have hji5_ : (a0 / 2 ^ min (ji3).toNat 64) = ji5 := hji5; have hji5z : (ji3) ≤ 64 → (a0 / 2 ^ (ji3).toNat) = ji5 := shr_small hji5; obtain rfl := Option.some.inj H; go_enter Tryd.func77, Tryd.ntmps77; go_wp2; go_ret; exact ⟨by first | rfl | (simp; done) | (simp only [← hji3, ← hji5] <;> (first | rfl | simp)) | (simp [*]; done), by repeat (first | exact Drawn0.refl _ | apply Drawn0.step)⟩
 · rw [if_neg c4] at H; exact absurd H (by simp)
end Go.Proofs.YtjmdlmogdbhdhaaDoor.P
namespace Go.Proofs.YtjmdlmogdbhdhaaDoor.P
open Go.RowKit Go.Proofs.YtjmdlmogdbhdhaaDoorW.PrintWords Go.Proofs.YtjmdlmogdbhdhaaDoorW.PrintLast Go.Proofs.YtjmdlmogdbhdhaaDoorW.PrintMore
attribute [local go_sem] max2_int min2_int max_two min_two max_three min_three max_four min_four
set_option linter.unusedVariables false
set_option linter.unusedSimpArgs false
def network_Set_List.l0 : Nat → Int → List Int → Option (List Int)
 | 0, _, _ => none
 | k + 1, x0, x3 => if x0 = 0 then (some x3) else ((bits_TrailingZeros64.f x0).bind fun t153 => (if x3.length < 17592186044416 then (network_Set_List.l0 k (Go.bits .and .u64 x0 (IntKind.u64.wrap (x0 - 1))) (x3 ++ [t153])) else (none)))
def network_Set_List.f (k : Nat) (a0 : Int) : Option (List Int) := network_Set_List.l0 k a0 ([] : List Int)
set_option maxHeartbeats 8000000 in
set_option maxRecDepth 100000 in
theorem network_Set_List.calls (k : Nat) (a0 : Int) (r : List Int) (w : World) (hT : TabT w) (h : network_Set_List.f k a0 = some r) :
 Calls Tryd.prog 50 #[.int .u64 a0] w fun e w' => ∃ v0_ : Value, e = .returned (v0_) ∧ Kd.R (Kd.int .i64) 3 w' w.heap.size (fun _ => True) v0_ r ∧ Below w.heap.size w w' := by
 have HTab := Aside0.mk hT; clear hT; have HB := Aside0.mk (Below.refl w.heap.size w); have H : (network_Set_List.l0 k a0 ([] : List Int)) = some r := h; clear h; have H' := Aside0.mk H; clear H; go_enter Tryd.func50, Tryd.ntmps50; go_wp2; go_loopg [0, 3] k (fun kq v0 v3 w' => ∃ (x0_1 : Int) (x3_1 : List Int), v0 = .int .u64 x0_1 ∧ Aside0 (network_Set_List.l0 kq x0_1 x3_1 = some r) ∧ Aside0 (kq ≤ k) ∧ Aside0 (Kd.R (Kd.int .i64) 3 w' w.heap.size (fun _ => True) v3 x3_1) ∧ Aside0 (Below w.heap.size w w'))
 case atStart => exact ⟨(a0), (([] : List Int)), zv, H', ⟨Nat.le_refl _⟩, ⟨by first | exact Kd.R_nil _ _ _ _ _ | exact Kd.N_nil _ _ _ _ _ | exact Kd.V_nil _ _ _ _ _ | exact Kd.Q_nil _ _ _ _ _ | exact Kd.S_nil _ _ _ _ _ | exact Kd.R_nil _ _ _ 0 _⟩, ⟨zB HB⟩⟩
 case round =>
  clear H'; obtain ⟨x0_1, x3_1, rfl, HA, HK1, HO_3, HB⟩ := hrel; cases gk with
  | zero => exact absurd HA.out (by simp [network_Set_List.l0])
  | succ k1 =>
   have H := HA.out; clear HA; simp only [network_Set_List.l0] at H; by_cases c2 : x0_1 = 0
   · rw [if_pos c2] at H; have c2b0 : (x0_1 == 0) = true := beq_iff_eq.mpr c2; have c2b1 : (x0_1 != 0) = false := bne_eq_false_iff_eq.mpr c2; clear c2; obtain rfl := Option.some.inj H; go_wp2; go_ret; exact ⟨_, by first | rfl | (simp [errW_none, errW_some] <;> rfl) | (simp [*, errW_none, errW_some] <;> rfl), by refine zkR ?_; exact HO_3.out, zB HB⟩
   · rw [if_neg c2] at H; have c2b0 : (x0_1 == 0) = false := beq_eq_false_iff_ne.mpr c2; have c2b1 : (x0_1 != 0) = true := bne_iff_ne.mpr c2; replace H := Option.bind_eq_some_iff.mp H; obtain ⟨t153, A30, H⟩ := H; replace H : (if x3_1.length < 17592186044416 then (network_Set_List.l0 k1 (Go.bits .and .u64 x0_1 (IntKind.u64.wrap (x0_1 - 1))) (x3_1 ++ [t153])) else (none)) = some r := H; have A3 := Aside0.mk A30; clear A30; by_cases c4 : x3_1.length < 17592186044416
     · rw [if_pos c4] at H; have LMc4 := Aside0.mk c4; clear c4; obtain ⟨y154, hy154⟩ : ∃ y_ : List Int, y_ = (x3_1 ++ [t153]) := ⟨_, rfl⟩; replace H : (network_Set_List.l0 k1 (Go.bits .and .u64 x0_1 (IntKind.u64.wrap (x0_1 - 1))) y154) = some r := by first | (rw [hy154]; with_reducible exact H) | (have H2_ := (Option.bind_some _ _).symm.trans H; rw [hy154]; with_reducible exact H2_) | (have H2_ := (Option.bind_some _ _).symm.trans H; with_reducible exact H2_) | with_reducible exact H | (rw [hy154]; exact H) | exact H
       have Ny154 := Aside0.mk hy154; clear hy154; have H' := Aside0.mk H; clear H; go_wp2_with (first | ((with_reducible refine gate_callee (f := 78) rfl ?_); refine zG (some 12) rfl Tryd.func78 #[.int .u64 x0_1] ?_; (with_reducible refine (bits_TrailingZeros64.calls x0_1 t153 _ ?side1 A3.out).mono ?_); (case side1 => exact TabT.now HTab.out (zB HB)); rintro e w' ⟨rfl, ⟨nd, rfl⟩⟩; refine ⟨_, rfl, ?_⟩) | ((with_reducible refine gate_builtin (b := .append) (xs := #[.tmp 10, .tmp 13]) rfl ?_); at_builtin; refine Kd.R_append (Kd.int .i64) (w0 := w) w.heap.size rfl (.tmp 10) (.tmp 13) 25 3 (.int .i64 0) 8 rfl Tryd.underlying25 info3 rfl (by decide) (by omega) u3 x3_1 t153 [.int .i64 t153] (fun _ => True) (fun _ => False) rfl rfl ?aP (fun _ hk => hk.elim) ?aF ?aO ?aB ?aS ?aL ?_; (case aP => exact rfl); (case aB => exact (zB HB)); (case aF => exact (fun _ _ => trivial)); (case aO => exact (zR HO_3)); (case aS => exact (below_size (zB HB))); (case aL => have := LMc4.out; omega); intro v155 w5 ho hb hg hat; rw [← Ny154.out] at ho; have HO156 := Aside0.mk (ho); replace HB := Aside0.mk (hb); clear HO_3; clear ho hb hg hat)); go_roundg k1
       case measure => have := HK1.out; omega
       case rel => exact ⟨(Go.bits .and .u64 x0_1 (IntKind.u64.wrap (x0_1 - 1))), (y154), zv, H', ⟨by have := HK1.out; omega⟩, ⟨zR HO156⟩, ⟨zB HB⟩⟩
     · rw [if_neg c4] at H; exact absurd H (by simp)
end Go.Proofs.YtjmdlmogdbhdhaaDoor.P
namespace Go.Proofs.YtjmdlmogdbhdhaaDoor.P
open Go.RowKit Go.Proofs.YtjmdlmogdbhdhaaDoorW.PrintWords Go.Proofs.YtjmdlmogdbhdhaaDoorW.PrintLast Go.Proofs.YtjmdlmogdbhdhaaDoorW.PrintMore
attribute [local go_sem] max2_int min2_int max_two min_two max_three min_three max_four min_four
set_option linter.unusedVariables false
set_option linter.unusedSimpArgs false
def network_Set_With.f (a0 : Int) (a1 : Int) : Option (Int) := if 0 ≤ (IntKind.u64.wrap (a1)) then (some (Go.bits .or .u64 a0 (shl .u64 1 (IntKind.u64.wrap (a1))))) else (none)
set_option maxHeartbeats 8000000 in
set_option maxRecDepth 100000 in
theorem network_Set_With.calls (a0 : Int) (a1 : Int) (r : Int) (w : World) (h : network_Set_With.f a0 a1 = some r) :
 Calls Tryd.prog 51 #[.int .u64 a0, .int .i64 a1] w fun e w' => e = .returned (.int .u64 r) ∧ Drawn0 w w' := by
 have H : (if 0 ≤ (IntKind.u64.wrap (a1)) then (some (Go.bits .or .u64 a0 (shl .u64 1 (IntKind.u64.wrap (a1))))) else (none)) = some r := h; clear h; obtain ⟨ji3, hji3⟩ : ∃ j_ : Int, (IntKind.u64.wrap (a1)) = j_ := ⟨_, rfl⟩; replace H : (if 0 ≤ (ji3) then (some (Go.bits .or .u64 a0 (shl .u64 1 (ji3)))) else (none)) = some r := by first | (rw [hji3] at H; exact H) | (simp only [hji3] at H ⊢; exact H)
 by_cases c4 : 0 ≤ (ji3)
 · rw [if_pos c4] at H; have c4b0 := eq_true c4; have c4b1 : decide (0 ≤ (ji3)) = true := decide_eq_true c4; clear c4; obtain ⟨ji5, hji5⟩ : ∃ j_ : Int, (shl .u64 1 (ji3)) = j_ := ⟨_, rfl⟩; replace H : (some (Go.bits .or .u64 a0 (ji5))) = some r := by first | (rw [hji5] at H; exact H) | (simp only [hji5] at H ⊢; exact H)
   have hji5_ : (IntKind.u64.wrap (1 * 2 ^ min (ji3).toNat 64)) = ji5 := hji5; have hji5z : (ji3) ≤ 64 → (IntKind.u64.wrap (1 * 2 ^ (ji3).toNat)) = ji5 := shl_small hji5; have hji5u : (IntKind.u64.wrap (2 ^ min (ji3).toNat 64)) = ji5 := by have h_ := hji5_; rw [Int.one_mul] at h_; exact h_
   have hji5v : (ji3) ≤ 64 → (IntKind.u64.wrap (2 ^ (ji3).toNat)) = ji5 := fun hle_ => by have h_ := hji5z hle_; rw [Int.one_mul] at h_; exact h_
   obtain rfl := Option.some.inj H; go_enter Tryd.func51, Tryd.ntmps51; go_wp2; go_ret; exact ⟨by first | rfl | (simp; done) | (simp only [← hji3, ← hji5] <;> (first | rfl | simp)) | (simp [*]; done), by repeat (first | exact Drawn0.refl _ | apply Drawn0.step)⟩
 · rw [if_neg c4] at H; exact absurd H (by simp)
end Go.Proofs.YtjmdlmogdbhdhaaDoor.P
namespace Go.Proofs.YtjmdlmogdbhdhaaDoor.P
open Go.RowKit Go.Proofs.YtjmdlmogdbhdhaaDoorW.PrintWords Go.Proofs.YtjmdlmogdbhdhaaDoorW.PrintLast Go.Proofs.YtjmdlmogdbhdhaaDoorW.PrintMore
attribute [local go_sem] max2_int min2_int max_two min_two max_three min_three max_four min_four
set_option linter.unusedVariables false
set_option linter.unusedSimpArgs false
def network_Of.l0 : Nat → Int → List Int → Int → Int → Option (Int)
 | 0, _, _, _, _ => none
 | k + 1, x3, x6, x7, x8 => if x8 < x7 then (if 0 ≤ x8 then (if x8 < (x6.length : Int) then ((network_Set_With.f x3 (rd x6 x8)).bind fun t134 => (network_Of.l0 k t134 x6 x7 (wrap64 (x8 + 1)))) else (none)) else (none)) else (some x3)
def network_Of.f (k : Nat) (l0 : List Int) : Option (Int) := network_Of.l0 k 0 l0 (l0.length : Int) 0
set_option maxHeartbeats 8000000 in
set_option maxRecDepth 100000 in
theorem network_Of.calls (k : Nat) (A0 : Option Addr) (c0 : Nat) (l0 : List Int) (r : Int) (w : World) (hr0 : Kd.C (Kd.int .i64) w A0 l0.length l0) (hc0 : l0.length ≤ c0) (h : network_Of.f k l0 = some r) :
 Calls Tryd.prog 48 #[.slice A0 l0.length c0] w fun e w' => e = .returned (.int .u64 r) ∧ Drawn0 w w' := by
 have HR0 := Aside0.mk hr0; have HC0 := Aside0.mk hc0; clear hr0 hc0; have H : (network_Of.l0 k 0 l0 (l0.length : Int) 0) = some r := h; clear h; have H' := Aside0.mk H; clear H; go_enter Tryd.func48, Tryd.ntmps48; go_wp2; go_loopg [3, 8] k (fun kq v3 v8 w' => ∃ (x3_1 : Int) (x8_1 : Int), v3 = .int .u64 x3_1 ∧ v8 = .int .i64 x8_1 ∧ Aside0 (network_Of.l0 kq x3_1 l0 (l0.length : Int) x8_1 = some r) ∧ Aside0 (kq ≤ k) ∧ Drawn0 w w')
 case atStart => exact ⟨(0), (0), zv, zv, H', ⟨Nat.le_refl _⟩, by repeat (first | exact Drawn0.refl _ | apply Drawn0.step)⟩
 case round =>
  clear H'; obtain ⟨x3_1, x8_1, rfl, rfl, HA, HK1, ⟨m1, rfl⟩⟩ := hrel; cases gk with
  | zero => exact absurd HA.out (by simp [network_Of.l0])
  | succ k1 =>
   have H := HA.out; clear HA; simp only [network_Of.l0] at H; by_cases c2 : x8_1 < (l0.length : Int)
   · rw [if_pos c2] at H; have c2b0 : decide (x8_1 < (l0.length : Int)) = true := decide_eq_true c2; clear c2; by_cases c3 : 0 ≤ x8_1
     · rw [if_pos c3] at H; have c3b0 : decide (0 ≤ x8_1) = true := decide_eq_true c3; clear c3; by_cases c4 : x8_1 < (l0.length : Int)
       · rw [if_pos c4] at H; have c4b0 : decide (x8_1 < (l0.length : Int)) = true := decide_eq_true c4; clear c4; replace H := Option.bind_eq_some_iff.mp H; obtain ⟨t134, A50, H⟩ := H; replace H : (network_Of.l0 k1 t134 l0 (l0.length : Int) (wrap64 (x8_1 + 1))) = some r := H; have A5 := Aside0.mk A50; clear A50; have H' := Aside0.mk H; clear H; have p133 : 0 ≤ (x8_1 : Int) := of_decide_eq_true (by first | (with_reducible assumption) | assumption); have q133 : x8_1 < (l0.length : Int) := of_decide_eq_true (by first | (with_reducible assumption) | assumption); obtain ⟨ad133, e133, hx133_0⟩ := Kd.at_int HR0.out x8_1 p133 q133; cases e133; replace p133 := eq_true p133; replace q133 := eq_true q133; go_wp2_with (first | ((with_reducible refine gate_callee (f := 51) rfl ?_); refine zG (some 14) rfl Tryd.func51 #[.int .u64 x3_1, .int .i64 (rd l0 x8_1)] ?_; (with_reducible refine (network_Set_With.calls x3_1 (rd l0 x8_1) t134 _ A5.out).mono ?_); rintro e w' ⟨rfl, ⟨nd, rfl⟩⟩; refine ⟨_, rfl, ?_⟩)); go_roundg k1
         case measure => have := HK1.out; omega
         case rel => exact ⟨(t134), (wrap64 (x8_1 + 1)), zv, zv, H', ⟨by have := HK1.out; omega⟩, by repeat (first | exact Drawn0.refl _ | apply Drawn0.step)⟩
       · rw [if_neg c4] at H; exact absurd H (by simp)
     · rw [if_neg c3] at H; exact absurd H (by simp)
   · rw [if_neg c2] at H; have c2b0 : decide (x8_1 < (l0.length : Int)) = false := decide_eq_false c2; clear c2; obtain rfl := Option.some.inj H; go_wp2; go_ret; exact ⟨by first | rfl | (simp; done) | (simp [*]; done), by repeat (first | exact Drawn0.refl _ | apply Drawn0.step)⟩
end Go.Proofs.YtjmdlmogdbhdhaaDoor.P
/- Plain facts: a set of small numbers as the bits of a word. -/
namespace Go.Proofs.YtjmdlmogdbhdhaaDoor.P
open Go.RowKit Go.Proofs.YtjmdlmogdbhdhaaDoorW.PrintWords Go.Proofs.YtjmdlmogdbhdhaaDoorW.PrintLast Go.Proofs.YtjmdlmogdbhdhaaDoorW.PrintMore
/-- The word u is the set of the numbers below 64 that p tells. -/
def Rep (u : Int) (p : Nat → Bool) : Prop := ∃ n : Nat, u = n ∧ n < 2 ^ 64 ∧ ∀ a, n.testBit a = p a
theorem wrap_u (n : Nat) (h : n < 2 ^ 64) : IntKind.u64.wrap (n : Int) = n := by
  simp only [IntKind.wrap, IntKind.signed, IntKind.bits]
  simp
  omega
theorem bv_nat (n : Nat) (h : n < 2 ^ 64) : (BitVec.ofInt 64 (n : Int)).toNat = n := by
  simp
  omega
theorem Rep.or {u v : Int} {p q : Nat → Bool} (hu : Rep u p) (hv : Rep v q) : Rep (Go.bits .or .u64 u v) (fun a => p a || q a) := by
  obtain ⟨n, rfl, hn, hp⟩ := hu
  obtain ⟨m, rfl, hm, hq⟩ := hv
  have hlt : n ||| m < 2 ^ 64 := Nat.or_lt_two_pow hn hm
  refine ⟨n ||| m, ?_, hlt, fun a => by rw [Nat.testBit_or, hp, hq]⟩
  show IntKind.u64.wrap (((BitVec.ofInt 64 (n : Int)) ||| (BitVec.ofInt 64 (m : Int))).toNat : Int) = _
  rw [BitVec.toNat_or, bv_nat n hn, bv_nat m hm, wrap_u _ hlt]
theorem Rep.and {u v : Int} {p q : Nat → Bool} (hu : Rep u p) (hv : Rep v q) : Rep (Go.bits .and .u64 u v) (fun a => p a && q a) := by
  obtain ⟨n, rfl, hn, hp⟩ := hu
  obtain ⟨m, rfl, hm, hq⟩ := hv
  have hlt : n &&& m < 2 ^ 64 := Nat.lt_of_le_of_lt Nat.and_le_left hn
  refine ⟨n &&& m, ?_, hlt, fun a => by rw [Nat.testBit_and, hp, hq]⟩
  show IntKind.u64.wrap (((BitVec.ofInt 64 (n : Int)) &&& (BitVec.ofInt 64 (m : Int))).toNat : Int) = _
  rw [BitVec.toNat_and, bv_nat n hn, bv_nat m hm, wrap_u _ hlt]
theorem Rep.andNot {u v : Int} {p q : Nat → Bool} (hu : Rep u p) (hv : Rep v q) : Rep (Go.bits .andNot .u64 u v) (fun a => p a && !q a) := by
  obtain ⟨n, rfl, hn, hp⟩ := hu
  obtain ⟨m, rfl, hm, hq⟩ := hv
  have hlt : ((BitVec.ofInt 64 (n : Int)) &&& ~~~(BitVec.ofInt 64 (m : Int))).toNat < 2 ^ 64 := BitVec.isLt _
  refine ⟨((BitVec.ofInt 64 (n : Int)) &&& ~~~(BitVec.ofInt 64 (m : Int))).toNat, ?_, hlt, fun a => ?_⟩
  · show IntKind.u64.wrap (((BitVec.ofInt 64 (n : Int)) &&& ~~~(BitVec.ofInt 64 (m : Int))).toNat : Int) = _
    rw [wrap_u _ hlt]
  · rw [BitVec.testBit_toNat, BitVec.getLsbD_and, BitVec.getLsbD_not, ← BitVec.testBit_toNat, ← BitVec.testBit_toNat, bv_nat n hn, bv_nat m hm, hp, hq]
    by_cases ha : a < 64
    · simp [ha]
    · have : p a = false := by rw [← hp]; exact Nat.testBit_lt_two_pow (Nat.lt_of_lt_of_le hn (Nat.pow_le_pow_right (by omega) (by omega)))
      simp [this]
theorem Rep.zero : Rep 0 (fun _ => false) := ⟨0, rfl, by omega, fun a => by simp⟩
theorem Rep.eq_zero {u : Int} {p : Nat → Bool} (h : Rep u p) : u = 0 ↔ ∀ a, p a = false := by
  obtain ⟨n, rfl, hn, hp⟩ := h
  constructor
  · intro h0 a
    rw [← hp, show n = 0 by omega]
    simp
  · intro hz
    have : n = 0 := Nat.eq_of_testBit_eq (fun i => by rw [hp, hz]; simp)
    omega
theorem Rep.congr {u : Int} {p q : Nat → Bool} (h : Rep u p) (e : ∀ a, p a = q a) : Rep u q := by
  obtain ⟨n, h1, h2, h3⟩ := h
  exact ⟨n, h1, h2, fun a => by rw [h3, e]⟩
theorem Rep.unique {u v : Int} {p : Nat → Bool} (h1 : Rep u p) (h2 : Rep v p) : u = v := by
  obtain ⟨n, rfl, _, hp⟩ := h1
  obtain ⟨m, rfl, _, hq⟩ := h2
  rw [Nat.eq_of_testBit_eq (fun i => (hp i).trans (hq i).symm)]
theorem Rep.small {u : Int} {p : Nat → Bool} (h : Rep u p) {a : Nat} (ha : 64 ≤ a) : p a = false := by
  obtain ⟨n, rfl, hn, hp⟩ := h
  rw [← hp]
  exact Nat.testBit_lt_two_pow (Nat.lt_of_lt_of_le hn (Nat.pow_le_pow_right (by omega) ha))
theorem Rep.one (a : Nat) (ha : a < 64) : Rep (shl .u64 1 (a : Int)) (fun b => decide (b = a)) := by
  have hlt : 2 ^ a < 2 ^ 64 := Nat.pow_lt_pow_right (by omega) ha
  refine ⟨2 ^ a, ?_, hlt, fun b => ?_⟩
  · unfold shl
    rw [show min ((a : Int).toNat) IntKind.u64.bits = a by show min ((a : Int).toNat) 64 = a; omega, Int.one_mul]
    have := wrap_u (2 ^ a) hlt
    rw [← this]
    congr 1
  · rw [Nat.testBit_two_pow]
    exact decide_eq_decide.2 eq_comm
theorem with_ok {u : Int} {p : Nat → Bool} (h : Rep u p) (a : Nat) (ha : a < 64) : ∃ v, network_Set_With.f u (a : Int) = some v ∧ Rep v (fun b => p b || decide (b = a)) := by
  refine ⟨Go.bits .or .u64 u (shl .u64 1 (a : Int)), ?_, h.or (Rep.one a ha)⟩
  unfold network_Set_With.f
  rw [wrap_u a (by omega), if_pos (by omega)]
theorem has_bit {u : Int} {p : Nat → Bool} (h : Rep u p) (a : Nat) (ha : a < 64) : network_Set_Has.f u (a : Int) = some (p a) := by
  obtain ⟨n, rfl, hn, hp⟩ := h
  unfold network_Set_Has.f
  rw [wrap_u a (by omega), if_pos (by omega)]
  have e : shr .u64 (n : Int) (a : Int) = ((n / 2 ^ a : Nat) : Int) := by
    unfold shr
    rw [show min ((a : Int).toNat) IntKind.u64.bits = a by show min ((a : Int).toNat) 64 = a; omega]
    push_cast
    rfl
  have hd : n / 2 ^ a < 2 ^ 64 := Nat.lt_of_le_of_lt (Nat.div_le_self _ _) hn
  have hr : Rep (shr .u64 (n : Int) (a : Int)) (fun b => n.testBit (a + b)) := ⟨n / 2 ^ a, e, hd, fun b => by rw [Nat.testBit_div_two_pow, Nat.add_comm]⟩
  have ho : Rep 1 (fun b => decide (b = 0)) := ⟨1, rfl, by omega, fun b => by
    have := Nat.testBit_two_pow (n := 0) (m := b)
    rw [Nat.pow_zero] at this
    rw [this]
    exact decide_eq_decide.2 eq_comm⟩
  have hand := hr.and ho
  rw [← hp]
  by_cases hb : n.testBit a = true
  · rw [hb]
    have : Go.bits .and .u64 (shr .u64 (n : Int) (a : Int)) 1 = 1 := hand.unique (ho.congr fun b => by
      by_cases h0 : b = 0
      · subst h0; simp [hb]
      · simp [h0])
    rw [this]
    rfl
  · have hb' : n.testBit a = false := by simpa using hb
    rw [hb']
    have : Go.bits .and .u64 (shr .u64 (n : Int) (a : Int)) 1 = 0 := hand.unique (Rep.zero.congr fun b => by
      by_cases h0 : b = 0
      · subst h0; simp [hb']
      · simp [h0])
    rw [this]
    rfl
theorem of_l0 {l : List Int} (hl : ∀ x ∈ l, 0 ≤ x ∧ x < 64) (hlen : l.length ≤ 1000000) : ∀ (n i : Nat), n + i = l.length → ∀ (u : Int) (p : Nat → Bool), Rep u p → ∃ v, Ev (fun k => network_Of.l0 k u l (l.length : Int) (i : Int)) v ∧ Rep v (fun b => p b || decide ((b : Int) ∈ l.drop i))
  | 0, i, hi, u, p, hu => by
    refine ⟨u, Ev.succ ?_, hu.congr fun b => by rw [List.drop_eq_nil_of_le (by omega)]; simp⟩
    simp only [network_Of.l0]
    exact Ev.neg (by omega) (Ev.const _)
  | n + 1, i, hi, u, p, hu => by
    have hlt : i < l.length := by omega
    have hb := hl _ (List.getElem_mem hlt)
    have hw : wrap64 ((i : Int) + 1) = ((i + 1 : Nat) : Int) := by rw [wrap_id _ (by omega) (by omega)]; rfl
    obtain ⟨w, e1, hw1⟩ := with_ok hu (l[i]).toNat (by omega)
    rw [show (((l[i]).toNat : Nat) : Int) = l[i] by omega] at e1
    obtain ⟨v, e2, hv⟩ := of_l0 hl hlen n (i + 1) (by omega) w _ hw1
    refine ⟨v, Ev.succ ?_, hv.congr fun b => ?_⟩
    · simp only [network_Of.l0, rd_get l i hlt, hw, e1, Option.bind_some]
      exact Ev.pos (by omega) (Ev.pos (by omega) (Ev.pos (by omega) e2))
    · rw [List.drop_eq_getElem_cons hlt]
      have : decide (b = (l[i]).toNat) = decide ((b : Int) = l[i]) := decide_eq_decide.2 (by omega)
      rw [this, Bool.or_assoc]
      congr 1
      simp only [List.mem_cons, Bool.decide_or]
theorem of_ok {l : List Int} (hl : ∀ x ∈ l, 0 ≤ x ∧ x < 64) (hlen : l.length ≤ 1000000) : ∃ v, Ev (fun k => network_Of.f k l) v ∧ Rep v (fun b => decide ((b : Int) ∈ l)) := by
  obtain ⟨v, e, hv⟩ := of_l0 hl hlen l.length 0 (by omega) 0 _ Rep.zero
  exact ⟨v, e, hv.congr fun b => by simp⟩
/-- The numbers that p tells, in order, from i on. -/
def lst (p : Nat → Bool) : List Int := ((List.range 64).filter p).map (fun (a : Nat) => (a : Int))
theorem lst_mem {p : Nat → Bool} (hp : ∀ a, 64 ≤ a → p a = false) (x : Int) : x ∈ lst p ↔ 0 ≤ x ∧ p x.toNat = true := by
  unfold lst
  rw [List.mem_map]
  constructor
  · rintro ⟨a, ha, rfl⟩
    rw [List.mem_filter] at ha
    exact ⟨by omega, by simpa using ha.2⟩
  · rintro ⟨h0, h1⟩
    refine ⟨x.toNat, List.mem_filter.2 ⟨List.mem_range.2 ?_, h1⟩, by omega⟩
    rcases Nat.lt_or_ge x.toNat 64 with h | h
    · exact h
    · rw [hp _ h] at h1; cases h1
theorem lst_ord (p : Nat → Bool) : (lst p).Pairwise (· < ·) := by
  unfold lst
  rw [List.pairwise_map]
  have : ((List.range 64).filter p).Pairwise (· < ·) := List.Pairwise.filter p List.pairwise_lt_range
  exact this.imp (fun h => by omega)
theorem ints_unique {l m : List Int} (h1 : l.Pairwise (· < ·)) (h2 : m.Pairwise (· < ·)) (h : ∀ x, x ∈ l ↔ x ∈ m) : l = m :=
  List.Perm.eq_of_pairwise (le := (· < ·)) (fun a b _ _ h1 h2 => by omega) h1 h2 ((List.perm_ext_iff_of_nodup (List.nodup_iff_pairwise_ne.2 (h1.imp (fun h => by omega))) (List.nodup_iff_pairwise_ne.2 (h2.imp (fun h => by omega)))).2 h)
theorem lst_cons {p : Nat → Bool} (hp : ∀ a, 64 ≤ a → p a = false) (i : Nat) (hi : i < 64) (h0 : ∀ a, a < i → p a = false) (h1 : p i = true) : lst p = (i : Int) :: lst (fun a => p a && decide (a ≠ i)) := by
  have hp' : ∀ a, 64 ≤ a → (p a && decide (a ≠ i)) = false := fun a ha => by rw [hp a ha]; rfl
  refine ints_unique (lst_ord _) (List.pairwise_cons.2 ⟨fun x hx => ?_, lst_ord _⟩) (fun x => ?_)
  · rw [lst_mem hp'] at hx
    obtain ⟨hx0, hx1⟩ := hx
    simp only [Bool.and_eq_true, decide_eq_true_eq] at hx1
    rcases Nat.lt_or_ge x.toNat i with h | h
    · rw [h0 _ h] at hx1; exact absurd hx1.1 (by simp)
    · omega
  · rw [List.mem_cons, lst_mem hp, lst_mem hp']
    constructor
    · rintro ⟨hx0, hx1⟩
      by_cases hxi : x = i
      · exact .inl hxi
      · exact .inr ⟨hx0, by simp [hx1]; omega⟩
    · rintro (rfl | ⟨hx0, hx1⟩)
      · exact ⟨by omega, by simpa using h1⟩
      · simp only [Bool.and_eq_true] at hx1
        exact ⟨hx0, hx1.1⟩
theorem lst_nil {p : Nat → Bool} (h : ∀ a, p a = false) : lst p = [] := by
  unfold lst
  rw [List.filter_eq_nil_iff.2 (fun a _ => by simp [h])]
  rfl
theorem clear_low (c m : Nat) (j : Nat) : ((2 ^ c * (2 * m + 1)) &&& (2 ^ c * (2 * m + 1) - 1)).testBit j = ((2 ^ c * (2 * m + 1)).testBit j && decide (j ≠ c)) := by
  have hpos : 0 < 2 ^ c := Nat.two_pow_pos c
  have e1 : 2 ^ c * (2 * m + 1) = 2 ^ (c + 1) * m + 2 ^ c := by rw [Nat.pow_succ, Nat.mul_add, Nat.mul_one, Nat.mul_assoc]
  have e2 : 2 ^ c * (2 * m + 1) - 1 = 2 ^ (c + 1) * m + (2 ^ c - 1) := by rw [e1]; omega
  have l1 : 2 ^ c < 2 ^ (c + 1) := by rw [Nat.pow_succ]; omega
  rw [Nat.testBit_and, e2, e1, Nat.testBit_two_pow_mul_add _ l1, Nat.testBit_two_pow_mul_add _ (by omega : 2 ^ c - 1 < 2 ^ (c + 1))]
  by_cases hj : j < c + 1
  · rw [if_pos hj, if_pos hj, Nat.testBit_two_pow, Nat.testBit_two_pow_sub_one]
    by_cases hc : c = j
    · subst hc; simp
    · simp [hc]
  · rw [if_neg hj, if_neg hj]
    have : j ≠ c := by omega
    simp [this]
theorem low_bit {n : Nat} (h0 : n ≠ 0) (hn : n < 2 ^ 64) (i : Nat) (hlow : ∀ a, a < i → n.testBit a = false) (hi : n.testBit i = true) : Lib.ctz 64 n = i ∧ ∀ j, (n &&& (n - 1)).testBit j = (n.testBit j && decide (j ≠ i)) := by
  obtain ⟨m, e, hc⟩ := Lib.ctzFrom_spec 64 n (by omega) hn
  have hz : Lib.ctz 64 n = Lib.ctzFrom 64 n := by unfold Lib.ctz; rw [if_neg h0]
  generalize Lib.ctzFrom 64 n = c at e hc hz
  have hb : ∀ j, n.testBit j = (decide (j ≥ c) && (2 * m + 1).testBit (j - c)) := fun j => by rw [e, Nat.testBit_two_pow_mul]
  have hci : c = i := by
    rcases Nat.lt_trichotomy c i with h | h | h
    · have := hlow c h
      rw [hb] at this
      simp at this
    · exact h
    · have := hb i
      rw [hi, decide_eq_false (by omega)] at this
      simp at this
  subst hci
  refine ⟨hz, fun j => ?_⟩
  have := clear_low c m j
  rwa [← e] at this
theorem list_l0 : ∀ (n i : Nat), n + i = 64 → ∀ (u : Int) (p : Nat → Bool), Rep u p → (∀ a, a < i → p a = false) → ∀ acc : List Int, acc.length ≤ i → Ev (fun k => network_Set_List.l0 k u acc) (acc ++ lst p)
  | 0, i, hi, u, p, hu, hlow, acc, ha => by
    have hz : ∀ a, p a = false := fun a => by
      rcases Nat.lt_or_ge a i with h | h
      · exact hlow a h
      · exact hu.small (by omega)
    have h0 : u = 0 := hu.eq_zero.2 hz
    refine Ev.succ ?_
    simp only [network_Set_List.l0]
    refine Ev.pos h0 ?_
    rw [lst_nil hz, List.append_nil]
    exact Ev.const _
  | n + 1, i, hi, u, p, hu, hlow, acc, ha => by
    by_cases hpi : p i = true
    · have hu0 : u ≠ 0 := fun h => by rw [hu.eq_zero.1 h i] at hpi; cases hpi
      have hsm : ∀ a, 64 ≤ a → p a = false := fun a ha => hu.small ha
      obtain ⟨m, rfl, hm, hmp⟩ := hu
      obtain ⟨hc, hclr⟩ := low_bit (n := m) (by omega) hm i (fun a h => by rw [hmp, hlow a h]) (by rw [hmp, hpi])
      have hu' : Rep (Go.bits .and .u64 (m : Int) (IntKind.u64.wrap ((m : Int) - 1))) (fun a => p a && decide (a ≠ i)) := by
        have hm1 : ((m : Int) - 1) = ((m - 1 : Nat) : Int) := by omega
        rw [hm1, wrap_u (m - 1) (by omega)]
        have h1 : Rep (m : Int) (fun a => m.testBit a) := ⟨m, rfl, hm, fun _ => rfl⟩
        have h2 : Rep ((m - 1 : Nat) : Int) (fun a => (m - 1).testBit a) := ⟨m - 1, rfl, by omega, fun _ => rfl⟩
        exact (h1.and h2).congr fun a => by rw [← Nat.testBit_and, hclr, hmp]
      have ih := list_l0 n (i + 1) (by omega) _ _ hu' (fun a h => by
        by_cases hai : a = i
        · subst hai; simp
        · rw [hlow a (by omega)]; rfl) (acc ++ [(i : Int)]) (by simp; omega)
      refine Ev.succ ?_
      have htz : bits_TrailingZeros64.f (m : Int) = some (i : Int) := by
        unfold bits_TrailingZeros64.f
        rw [if_pos ⟨by omega, by omega⟩, show ((m : Int)).toNat = m by omega, hc]
      simp only [network_Set_List.l0, htz, Option.bind_some]
      refine Ev.neg hu0 (Ev.pos (by omega) ?_)
      rw [lst_cons hsm i (by omega) hlow hpi]
      simpa using ih
    · have hpi' : p i = false := by simpa using hpi
      exact list_l0 n (i + 1) (by omega) u p hu (fun a h => by
        by_cases hai : a = i
        · rw [hai]; exact hpi'
        · exact hlow a (by omega)) acc (by omega)
theorem list_ev {u : Int} {p : Nat → Bool} (hu : Rep u p) : Ev (fun k => network_Set_List.f k u) (lst p) := by
  have := list_l0 64 0 (by omega) u p hu (fun a h => absurd h (by omega)) [] (by simp)
  simpa only [network_Set_List.f, List.nil_append] using this
end Go.Proofs.YtjmdlmogdbhdhaaDoor.P
namespace Go.Proofs.YtjmdlmogdbhdhaaDoor.P
open Go.RowKit Go.Proofs.YtjmdlmogdbhdhaaDoorW.PrintWords Go.Proofs.YtjmdlmogdbhdhaaDoorW.PrintLast Go.Proofs.YtjmdlmogdbhdhaaDoorW.PrintMore
attribute [local go_sem] max2_int min2_int max_two min_two max_three min_three max_four min_four
set_option linter.unusedVariables false
set_option linter.unusedSimpArgs false
mutual
def network_New.l0 : Nat → Int → Int → Int → List (S42) → Int → List Int → List Int → Option (Int × List Int × List Int)
 | 0, _, _, _, _, _, _, _ => none
 | k + 1, x15, x16, x136000, x136001, x144000, x144001, x144002 => if x16 < x15 then ((network_Set_With.f x144000 x16).bind fun t144 => (network_New.l0 k x15 (wrap64 (x16 + 1)) x136000 x136001 t144 x144001 x144002)) else (network_New.l1 k x136001 (x136001.length : Int) 0 x144000 x144001 x144002)
def network_New.l1 : Nat → List (S42) → Int → Int → Int → List Int → List Int → Option (Int × List Int × List Int)
 | 0, _, _, _, _, _, _ => none
 | k + 1, x26, x27, x28, x144000, x144001, x144002 => if x28 < x27 then (if 0 ≤ x28 then (if x28 < (x26.length : Int) then (if 0 ≤ ((rd_T42 x26 x28).f1) then (if ((rd_T42 x26 x28).f1) < (x144001.length : Int) then ((network_Set_With.f (rd x144001 ((rd_T42 x26 x28).f1)) ((rd_T42 x26 x28).f0)).bind fun t148 => (if 0 ≤ ((rd_T42 x26 x28).f0) then (if ((rd_T42 x26 x28).f0) < (x144002.length : Int) then ((network_Set_With.f (rd x144002 ((rd_T42 x26 x28).f0)) ((rd_T42 x26 x28).f1)).bind fun t151 => (network_New.l1 k x26 x27 (wrap64 (x28 + 1)) x144000 (x144001.set (((rd_T42 x26 x28).f1) : Int).toNat t148) (x144002.set (((rd_T42 x26 x28).f0) : Int).toNat t151))) else (none)) else (none))) else (none)) else (none)) else (none)) else (none)) else (some (x144000, x144001, x144002))
end
def network_New.f (k : Nat) (a0_0 : Int) (l0_1 : List (S42)) : Option (Int × List Int × List Int) := if 0 ≤ a0_0 then (if (a0_0 : Int).toNat ≤ 35184372088832 then (network_New.l0 k a0_0 0 a0_0 l0_1 0 (List.replicate (a0_0 : Int).toNat 0) (List.replicate (a0_0 : Int).toNat 0)) else (none)) else (none)
def network_New.T1 : Bool × List (List Nat × List Nat) := (true, [([], []), ([0], [0]), ([1, 1], [1]), ([], []), ([3], [3]), ([4, 4], [4]), ([2, 5], [2, 5]), ([], []), ([7, 6, 0, 1, 2, 3, 4, 5, 6, 7], [6, 7])])
def network_New.B1 : List Nat := [0, 1, 3, 0, 8, 24, 63, 0, 255]
theorem network_New.tab1 : rtab .any (opsOf Tryd.f49 1) = network_New.T1 := by kernel_rfl
theorem network_New.bits1 : waitsOk network_New.T1.2 network_New.B1 = true := by kernel_rfl
def network_New.T10 : Bool × List (List Nat × List Nat) := (true, [([], []), ([0], [0]), ([], []), ([2], [2]), ([], []), ([4], [4]), ([], []), ([6], [6]), ([5, 7], [5, 7]), ([8], [8]), ([], []), ([10], [10]), ([9, 11], [9, 11]), ([1, 3, 0, 1, 2, 3, 4, 5, 6, 7, 8, 9, 10, 11, 12], [1, 3]), ([13, 12, 12, 0, 1, 2, 3, 4, 5, 6, 7, 8, 9, 10, 11, 12], [12, 13])])
def network_New.B10 : List Nat := [0, 1, 0, 4, 0, 16, 0, 64, 240, 496, 0, 1024, 4080, 8191, 16383]
theorem network_New.tab10 : rtab .any (opsOf Tryd.f49 10) = network_New.T10 := by kernel_rfl
theorem network_New.bits10 : waitsOk network_New.T10.2 network_New.B10 = true := by kernel_rfl
def network_New.T11 : Bool × List (List Nat × List Nat) := (true, [([], []), ([0], [0]), ([], []), ([2], [2]), ([], []), ([4], [4]), ([], []), ([6], [6]), ([5, 7], [5, 7]), ([8], [8]), ([], []), ([10], [10]), ([9, 11], [9, 11]), ([1, 3, 0, 1, 2, 3, 4, 5, 6, 7, 8, 9, 10, 11, 12], [1, 3]), ([13, 12, 12, 0, 1, 2, 3, 4, 5, 6, 7, 8, 9, 10, 11, 12], [12, 13])])
def network_New.B11 : List Nat := [0, 1, 0, 4, 0, 16, 0, 64, 240, 496, 0, 1024, 4080, 8191, 16383]
theorem network_New.tab11 : rtab .any (opsOf Tryd.f49 11) = network_New.T11 := by kernel_rfl
theorem network_New.bits11 : waitsOk network_New.T11.2 network_New.B11 = true := by kernel_rfl
set_option maxHeartbeats 8000000 in
set_option maxRecDepth 100000 in
theorem network_New.calls (k : Nat) (a0_0 : Int) (A0_1 : Option Addr) (c0_1 : Nat) (l0_1 : List (S42)) (r1 : Int) (r2 : List Int) (r3 : List Int) (w : World) (hr0_1 : Kd.C k42 w A0_1 l0_1.length l0_1) (hc0_1 : l0_1.length ≤ c0_1) (h : network_New.f k a0_0 l0_1 = some (r1, r2, r3)) :
 Calls Tryd.prog 49 #[.agg #[.int .i64 a0_0, .slice A0_1 l0_1.length c0_1]] w fun e w' => ∃ v1_ v2_ : Value, e = .returned (.agg #[.int .u64 r1, v1_, v2_]) ∧ Kd.R (Kd.int .u64) 76 w' w.heap.size (fun k_ => some k_ ≠ (v2_ : Value).ownBlock) v1_ r2 ∧ Kd.R (Kd.int .u64) 76 w' w.heap.size (fun k_ => some k_ ≠ (v1_ : Value).ownBlock) v2_ r3 ∧ Below w.heap.size w w' := by
 have hu24 := Tryd.underlying24; have hu80 := Tryd.underlying80; have hu42 := Tryd.underlying42; have HR0_1 := Aside0.mk hr0_1; have HC0_1 := Aside0.mk hc0_1; clear hr0_1 hc0_1; have HB := Aside0.mk (Below.refl w.heap.size w); have H : (if 0 ≤ a0_0 then (if (a0_0 : Int).toNat ≤ 35184372088832 then (network_New.l0 k a0_0 0 a0_0 l0_1 0 (List.replicate (a0_0 : Int).toNat 0) (List.replicate (a0_0 : Int).toNat 0)) else (none)) else (none)) = some (r1, r2, r3) := h; clear h; by_cases c2 : 0 ≤ a0_0
 · rw [if_pos c2] at H; have c2b0 := eq_true c2; have c2b1 : decide (0 ≤ a0_0) = true := decide_eq_true c2; clear c2; by_cases c3 : (a0_0 : Int).toNat ≤ 35184372088832
   · rw [if_pos c3] at H; have c3b0 := eq_true c3; have c3b1 : decide ((a0_0 : Int).toNat ≤ 35184372088832) = true := decide_eq_true c3; clear c3; obtain ⟨y137, hy137⟩ : ∃ y_ : List Int, y_ = (List.replicate (a0_0 : Int).toNat 0) := ⟨_, rfl⟩; replace H : (network_New.l0 k a0_0 0 a0_0 l0_1 0 y137 (List.replicate (a0_0 : Int).toNat 0)) = some (r1, r2, r3) := by first | (rw [hy137]; with_reducible exact H) | (have H2_ := (Option.bind_some _ _).symm.trans H; rw [hy137]; with_reducible exact H2_) | (have H2_ := (Option.bind_some _ _).symm.trans H; with_reducible exact H2_) | with_reducible exact H | (rw [hy137]; exact H) | exact H
     have Ny137 := Aside0.mk hy137; clear hy137; obtain ⟨y140, hy140⟩ : ∃ y_ : List Int, y_ = (List.replicate (a0_0 : Int).toNat 0) := ⟨_, rfl⟩; replace H : (network_New.l0 k a0_0 0 a0_0 l0_1 0 y137 y140) = some (r1, r2, r3) := by first | (rw [hy140]; with_reducible exact H) | (have H2_ := (Option.bind_some _ _).symm.trans H; rw [hy140]; with_reducible exact H2_) | (have H2_ := (Option.bind_some _ _).symm.trans H; with_reducible exact H2_) | with_reducible exact H | (rw [hy140]; exact H) | exact H
     have Ny140 := Aside0.mk hy140; clear hy140; have H' := Aside0.mk H; clear H; go_enter Tryd.func49, Tryd.ntmps49; try go_wp2_with (first | ((with_reducible refine gate_dst (N := 1) rfl ?_); refine zX (N := 1) (cs := #[.int .i64 a0_0, .slice A0_1 l0_1.length c0_1]) (t := 24) ?_; intro gb135 hg w4 hbox hb; have BK135 := Aside0.mk (hbox); have GW135 := Aside0.mk (zW hg HB); have GE135 := Aside0.mk (zW hg HB); replace HB := Aside0.mk (below_step (zB HB) hb); clear hb hbox hg) | ((with_reducible refine gate_dst (N := 2) rfl ?_); refine zX (N := 2) (cs := #[.int .u64 0, .slice none 0 0, .slice none 0 0]) (t := 80) ?_; intro gb136 hg w5 hbox hb; have BK136 := Aside0.mk (hbox); have GW136 := Aside0.mk (zW hg HB); have GE136 := Aside0.mk (zW hg HB); have NB135_136 := Aside0.mk (zNl hg BK135); have NB136_135 := Aside0.mk (zNr hg BK135); replace BK135 := Aside0.mk (zKb BK135 hb); replace HB := Aside0.mk (below_step (zB HB) hb); clear hb hbox hg))
     replace BK135 := Aside0.mk (blk_drew BK135.out); replace BK136 := Aside0.mk (blk_drew BK136.out); replace HB := Aside0.mk (below_drew1 HB.out); refine start_ (n := 9) (S := fun w' => w'.cell? ⟨gb135, 0, none⟩ = some (.int .i64 a0_0) ∧ w'.cell? ⟨gb135, 1, none⟩ = some (.slice A0_1 l0_1.length c0_1)) (ds := []) #[false, false, false, false, false, false, false, false, false] (by kernel_rfl) rfl rfl ⟨(blk_cell BK135.out 0).trans rfl, (blk_cell BK135.out 1).trans rfl⟩ (fun hHeld => ?_); refine with_tabW network_New.tab1 network_New.bits1 (fun HT_ HW_ => ?_); generalize w5.drew = w6 at BK135 BK136 HB hHeld ⊢; refine zpu (i := 0) (n := 7) #[true, false, false, false, false, false, false, false, false] HT_ ?_; refine zpu (i := 3) (n := 10) #[true, false, false, true, false, false, false, false, false] HT_ ?_; refine zt2 (i := 1) (n := 8) #[true, true, false, true, false, false, false, false, false] HT_ HW_ hHeld ?_; refine zt2 (i := 4) (n := 11) #[true, true, false, true, true, false, false, false, false] HT_ HW_ hHeld ?_; refine join_ (σ := Value × Value × Nat) 1 #[true, true, true, true, true, true, true, true, false] (fun s_ => [(9, s_.1), (12, s_.2.1), (3, .pointer (some ⟨s_.2.2, 0, none⟩)), (13, .agg #[.int .u64 0, s_.1, s_.2.1])]) (fun s_ w' => (w'.cell? ⟨gb135, 0, none⟩ = some (.int .i64 a0_0) ∧ w'.cell? ⟨gb135, 1, none⟩ = some (.slice A0_1 l0_1.length c0_1)) ∧ (Kd.R (Kd.int .u64) 76 w' w.heap.size (fun k_ => some k_ ≠ (s_.2.1 : Value).ownBlock) s_.1 y137) ∧ (Kd.R (Kd.int .u64) 76 w' w.heap.size (fun k_ => some k_ ≠ (s_.1 : Value).ownBlock) s_.2.1 y140) ∧ (w'.heap[gb135]? = some (.cells #[.int .i64 a0_0, .slice A0_1 l0_1.length c0_1] 24 (0, 0))) ∧ (w'.heap[gb136]? = some (.cells #[.int .u64 0, .slice none 0 0, .slice none 0 0] 80 (0, 0))) ∧ (w'.heap[s_.2.2]? = some (.cells #[.int .u64 0, .slice none 0 0, .slice none 0 0] 80 (0, 0))) ∧ (w.heap.size ≤ s_.2.2) ∧ (w.heap.size ≤ s_.2.2) ∧ (gb135 ≠ s_.2.2) ∧ (s_.2.2 ≠ gb135) ∧ (gb136 ≠ s_.2.2) ∧ (s_.2.2 ≠ gb136) ∧ (Below w.heap.size w w')) ?_ ?_; rotate_left
     · intro hJ2_5_7; refine join_ (σ := Value × Value) 2 #[true, true, true, true, true, true, true, false, false] (fun s_ => [(9, s_.1), (12, s_.2), (13, .agg #[.int .u64 0, s_.1, s_.2])]) (fun s_ w' => (w'.cell? ⟨gb135, 0, none⟩ = some (.int .i64 a0_0) ∧ w'.cell? ⟨gb135, 1, none⟩ = some (.slice A0_1 l0_1.length c0_1)) ∧ (Kd.R (Kd.int .u64) 76 w' w.heap.size (fun k_ => some k_ ≠ (s_.2 : Value).ownBlock) s_.1 y137) ∧ (Kd.R (Kd.int .u64) 76 w' w.heap.size (fun k_ => some k_ ≠ (s_.1 : Value).ownBlock) s_.2 y140) ∧ (w'.heap[gb135]? = some (.cells #[.int .i64 a0_0, .slice A0_1 l0_1.length c0_1] 24 (0, 0))) ∧ (w'.heap[gb136]? = some (.cells #[.int .u64 0, .slice none 0 0, .slice none 0 0] 80 (0, 0))) ∧ (Below w.heap.size w w')) ?_ ?_; rotate_left
       · intro hJ2_5; refine join_ (σ := Value × Nat) 3 #[true, true, true, true, true, false, false, true, false] (fun s_ => [(9, s_.1), (3, .pointer (some ⟨s_.2, 0, none⟩))]) (fun s_ w' => (w'.cell? ⟨gb135, 0, none⟩ = some (.int .i64 a0_0) ∧ w'.cell? ⟨gb135, 1, none⟩ = some (.slice A0_1 l0_1.length c0_1)) ∧ (Kd.R (Kd.int .u64) 76 w' w.heap.size (fun _ => True) s_.1 y137) ∧ (w'.heap[gb135]? = some (.cells #[.int .i64 a0_0, .slice A0_1 l0_1.length c0_1] 24 (0, 0))) ∧ (w'.heap[gb136]? = some (.cells #[.int .u64 0, .slice none 0 0, .slice none 0 0] 80 (0, 0))) ∧ (w'.heap[s_.2]? = some (.cells #[.int .u64 0, .slice none 0 0, .slice none 0 0] 80 (0, 0))) ∧ (w.heap.size ≤ s_.2) ∧ (w.heap.size ≤ s_.2) ∧ (gb135 ≠ s_.2) ∧ (s_.2 ≠ gb135) ∧ (gb136 ≠ s_.2) ∧ (s_.2 ≠ gb136) ∧ (Below w.heap.size w w')) ?_ ?_; rotate_left
         · intro hJ2_7; refine join_ (σ := Value × Nat) 3 #[true, true, false, true, true, true, false, true, false] (fun s_ => [(12, s_.1), (3, .pointer (some ⟨s_.2, 0, none⟩))]) (fun s_ w' => (w'.cell? ⟨gb135, 0, none⟩ = some (.int .i64 a0_0) ∧ w'.cell? ⟨gb135, 1, none⟩ = some (.slice A0_1 l0_1.length c0_1)) ∧ (Kd.R (Kd.int .u64) 76 w' w.heap.size (fun _ => True) s_.1 y140) ∧ (w'.heap[gb135]? = some (.cells #[.int .i64 a0_0, .slice A0_1 l0_1.length c0_1] 24 (0, 0))) ∧ (w'.heap[gb136]? = some (.cells #[.int .u64 0, .slice none 0 0, .slice none 0 0] 80 (0, 0))) ∧ (w'.heap[s_.2]? = some (.cells #[.int .u64 0, .slice none 0 0, .slice none 0 0] 80 (0, 0))) ∧ (w.heap.size ≤ s_.2) ∧ (w.heap.size ≤ s_.2) ∧ (gb135 ≠ s_.2) ∧ (s_.2 ≠ gb135) ∧ (gb136 ≠ s_.2) ∧ (s_.2 ≠ gb136) ∧ (Below w.heap.size w w')) ?_ ?_; rotate_left
           · intro hJ5_7; refine join_ (σ := Value) 4 #[true, true, true, true, true, false, false, false, false] (fun s_ => [(9, s_)]) (fun s_ w' => (w'.cell? ⟨gb135, 0, none⟩ = some (.int .i64 a0_0) ∧ w'.cell? ⟨gb135, 1, none⟩ = some (.slice A0_1 l0_1.length c0_1)) ∧ (Kd.R (Kd.int .u64) 76 w' w.heap.size (fun _ => True) s_ y137) ∧ (w'.heap[gb135]? = some (.cells #[.int .i64 a0_0, .slice A0_1 l0_1.length c0_1] 24 (0, 0))) ∧ (w'.heap[gb136]? = some (.cells #[.int .u64 0, .slice none 0 0, .slice none 0 0] 80 (0, 0))) ∧ (Below w.heap.size w w')) ?_ ?_; rotate_left
             · intro hJ2; refine join_ (σ := Value) 4 #[true, true, false, true, true, true, false, false, false] (fun s_ => [(12, s_)]) (fun s_ w' => (w'.cell? ⟨gb135, 0, none⟩ = some (.int .i64 a0_0) ∧ w'.cell? ⟨gb135, 1, none⟩ = some (.slice A0_1 l0_1.length c0_1)) ∧ (Kd.R (Kd.int .u64) 76 w' w.heap.size (fun _ => True) s_ y140) ∧ (w'.heap[gb135]? = some (.cells #[.int .i64 a0_0, .slice A0_1 l0_1.length c0_1] 24 (0, 0))) ∧ (w'.heap[gb136]? = some (.cells #[.int .u64 0, .slice none 0 0, .slice none 0 0] 80 (0, 0))) ∧ (Below w.heap.size w w')) ?_ ?_; rotate_left
               · intro hJ5; refine join_ (σ := Nat) 4 #[true, true, false, true, true, false, false, true, false] (fun s_ => [(3, .pointer (some ⟨s_, 0, none⟩))]) (fun s_ w' => (w'.cell? ⟨gb135, 0, none⟩ = some (.int .i64 a0_0) ∧ w'.cell? ⟨gb135, 1, none⟩ = some (.slice A0_1 l0_1.length c0_1)) ∧ (w'.heap[gb135]? = some (.cells #[.int .i64 a0_0, .slice A0_1 l0_1.length c0_1] 24 (0, 0))) ∧ (w'.heap[gb136]? = some (.cells #[.int .u64 0, .slice none 0 0, .slice none 0 0] 80 (0, 0))) ∧ (w'.heap[s_]? = some (.cells #[.int .u64 0, .slice none 0 0, .slice none 0 0] 80 (0, 0))) ∧ (w.heap.size ≤ s_) ∧ (w.heap.size ≤ s_) ∧ (gb135 ≠ s_) ∧ (s_ ≠ gb135) ∧ (gb136 ≠ s_) ∧ (s_ ≠ gb136) ∧ (Below w.heap.size w w')) ?_ ?_; rotate_left
                 · intro hJ7; refine three_ (i := 2) (j := 5) (k := 7) (Ni := some 9) (Nj := some 12) (Nk := some 3) #[true, true, true, true, true, false, false, false, false] #[true, true, false, true, true, true, false, false, false] #[true, true, false, true, true, false, false, true, false] rfl rfl rfl rfl rfl rfl (three_of HT_.out (by kernel_rfl)) (by decide) (by decide) (by decide) (fun K hK => ?_) (fun K hK => ?_) (fun K hK => ?_)
                   · refine Kd.R_make_step (Kd.int .u64) _ 76 (by rfl) (N := 9) rfl 78 _ _ rfl a0_0 rfl rfl Tryd.underlying78 (.int .u64 0) 8 info76 rfl (by decide) (by omega) 0 (ok := fun _ => True) (okp := fun _ => True) rfl (fun _ hk => hk) trivial (of_decide_eq_true (by first | (with_reducible assumption) | assumption)) (Nat.le_trans (Nat.mul_le_mul_right _ (of_decide_eq_true (by first | (with_reducible assumption) | assumption) : a0_0.toNat ≤ 35184372088832)) (by omega)) (Below.refl _ _) (Nat.le_refl _) ?_; intro v138 w7 ho8 hb hg_ hnew_; clear hg_ hnew_; (first | rw [← Ny137.out] at ho8 | (simp only [Int.reduceToNat] at ho8; rw [← Ny137.out] at ho8)); have HO139 := Aside0.mk (Kd.R_lower ho8 (below_size (zB HB))); replace BK135 := Aside0.mk (zKb BK135 hb); replace BK136 := Aside0.mk (zKb BK136 hb); replace HB := Aside0.mk (below_step (zB HB) hb); clear hb ho8; refine hK.out _ _ ⟨(blk_cell BK135.out 0).trans rfl, (blk_cell BK135.out 1).trans rfl⟩ (fun hHeld => ?_); clear hK K; refine znn 9 ?_; exact znj (hJ2 (v138) _ ⟨hHeld, (zR HO139), (zK BK135), (zK BK136), (zB HB)⟩)
                   · refine Kd.R_make_step (Kd.int .u64) _ 76 (by rfl) (N := 12) rfl 78 _ _ rfl a0_0 rfl rfl Tryd.underlying78 (.int .u64 0) 8 info76 rfl (by decide) (by omega) 0 (ok := fun _ => True) (okp := fun _ => True) rfl (fun _ hk => hk) trivial (of_decide_eq_true (by first | (with_reducible assumption) | assumption)) (Nat.le_trans (Nat.mul_le_mul_right _ (of_decide_eq_true (by first | (with_reducible assumption) | assumption) : a0_0.toNat ≤ 35184372088832)) (by omega)) (Below.refl _ _) (Nat.le_refl _) ?_; intro v141 w7 ho8 hb hg_ hnew_; clear hg_ hnew_; (first | rw [← Ny140.out] at ho8 | (simp only [Int.reduceToNat] at ho8; rw [← Ny140.out] at ho8)); have HO142 := Aside0.mk (Kd.R_lower ho8 (below_size (zB HB))); replace BK135 := Aside0.mk (zKb BK135 hb); replace BK136 := Aside0.mk (zKb BK136 hb); replace HB := Aside0.mk (below_step (zB HB) hb); clear hb ho8; refine hK.out _ _ ⟨(blk_cell BK135.out 0).trans rfl, (blk_cell BK135.out 1).trans rfl⟩ (fun hHeld => ?_); clear hK K; refine znn 12 ?_; exact znj (hJ5 (v141) _ ⟨hHeld, (zR HO142), (zK BK135), (zK BK136), (zB HB)⟩)
                   · refine box_step ?hg (N := 3) ?hd (cs := #[.int .u64 0, .slice none 0 0, .slice none 0 0]) (t := 80) ?hr ?_; (case hd => rfl); (case hg => rfl); (case hr => first | (go_simp; done) | (go_simp; rfl)); intro gb143 hg w7 hbox hb; have BK143 := Aside0.mk (hbox); have GW143 := Aside0.mk (zW hg HB); have GE143 := Aside0.mk (zW hg HB); have NB135_143 := Aside0.mk (zNl hg BK135); have NB143_135 := Aside0.mk (zNr hg BK135); have NB136_143 := Aside0.mk (zNl hg BK136); have NB143_136 := Aside0.mk (zNr hg BK136); replace BK135 := Aside0.mk (zKb BK135 hb); replace BK136 := Aside0.mk (zKb BK136 hb); replace HB := Aside0.mk (below_step (zB HB) hb); clear hb hbox hg; refine hK.out _ _ ⟨(blk_cell BK135.out 0).trans rfl, (blk_cell BK135.out 1).trans rfl⟩ (fun hHeld => ?_); clear hK K; refine znn 3 ?_; exact znj (hJ7 (gb143) _ ⟨hHeld, (zK BK135), (zK BK136), (zK BK143), GW143.out, GE143.out, NB135_143.out, NB143_135.out, NB136_143.out, NB143_136.out, (zB HB)⟩)
                 · rintro gb143 w8 ⟨hS_, h0_, h1_, h2_, h3_, h4_, h5_, h6_, h7_, h8_, h9_⟩; have BK143 : Aside0 (w8.heap[gb143]? = some (.cells #[.int .u64 0, .slice none 0 0, .slice none 0 0] 80 (0, 0))) := ⟨h2_⟩; have GW143 : Aside0 (w.heap.size ≤ gb143) := ⟨h3_⟩; have GE143 : Aside0 (w.heap.size ≤ gb143) := ⟨h4_⟩; have NB135_143 : Aside0 (gb135 ≠ gb143) := ⟨h5_⟩; have NB143_135 : Aside0 (gb143 ≠ gb135) := ⟨h6_⟩; have NB136_143 : Aside0 (gb136 ≠ gb143) := ⟨h7_⟩; have NB143_136 : Aside0 (gb143 ≠ gb136) := ⟨h8_⟩; replace BK135 : Aside0 (w8.heap[gb135]? = some (.cells #[.int .i64 a0_0, .slice A0_1 l0_1.length c0_1] 24 (0, 0))) := ⟨h0_⟩; replace BK136 : Aside0 (w8.heap[gb136]? = some (.cells #[.int .u64 0, .slice none 0 0, .slice none 0 0] 80 (0, 0))) := ⟨h1_⟩; replace HB : Aside0 (Below w.heap.size w w8) := ⟨h9_⟩; clear h0_ h1_ h2_ h3_ h4_ h5_ h6_ h7_ h8_ h9_; have hHeld : w8.cell? ⟨gb135, 0, none⟩ = some (.int .i64 a0_0) ∧ w8.cell? ⟨gb135, 1, none⟩ = some (.slice A0_1 l0_1.length c0_1) := hS_; refine znb ?_; refine two_ (i := 2) (j := 5) (Ni := some 9) (Nj := some 12) #[true, true, true, true, true, false, false, true, false] #[true, true, false, true, true, true, false, true, false] rfl rfl rfl rfl (two_of HT_.out (by kernel_rfl)) (by decide) (by decide) (fun K hK => ?_) (fun K hK => ?_)
                   · refine Kd.R_make_step (Kd.int .u64) _ 76 (by rfl) (N := 9) rfl 78 _ _ rfl a0_0 rfl rfl Tryd.underlying78 (.int .u64 0) 8 info76 rfl (by decide) (by omega) 0 (ok := fun _ => True) (okp := fun _ => True) rfl (fun _ hk => hk) trivial (of_decide_eq_true (by first | (with_reducible assumption) | assumption)) (Nat.le_trans (Nat.mul_le_mul_right _ (of_decide_eq_true (by first | (with_reducible assumption) | assumption) : a0_0.toNat ≤ 35184372088832)) (by omega)) (Below.refl _ _) (Nat.le_refl _) ?_; intro v138 w9 ho10 hb hg_ hnew_; clear hg_ hnew_; (first | rw [← Ny137.out] at ho10 | (simp only [Int.reduceToNat] at ho10; rw [← Ny137.out] at ho10)); have HO139 := Aside0.mk (Kd.R_lower ho10 (below_size (zB HB))); replace BK135 := Aside0.mk (zKb BK135 hb); replace BK136 := Aside0.mk (zKb BK136 hb); replace BK143 := Aside0.mk (zKb BK143 hb); replace HB := Aside0.mk (below_step (zB HB) hb); clear hb ho10; refine hK.out _ _ ⟨(blk_cell BK135.out 0).trans rfl, (blk_cell BK135.out 1).trans rfl⟩ (fun hHeld => ?_); clear hK K; refine znn 9 ?_; exact znj (hJ2_7 (v138, gb143) _ ⟨hHeld, (zR HO139), (zK BK135), (zK BK136), (zK BK143), GW143.out, GE143.out, NB135_143.out, NB143_135.out, NB136_143.out, NB143_136.out, (zB HB)⟩)
                   · refine Kd.R_make_step (Kd.int .u64) _ 76 (by rfl) (N := 12) rfl 78 _ _ rfl a0_0 rfl rfl Tryd.underlying78 (.int .u64 0) 8 info76 rfl (by decide) (by omega) 0 (ok := fun _ => True) (okp := fun _ => True) rfl (fun _ hk => hk) trivial (of_decide_eq_true (by first | (with_reducible assumption) | assumption)) (Nat.le_trans (Nat.mul_le_mul_right _ (of_decide_eq_true (by first | (with_reducible assumption) | assumption) : a0_0.toNat ≤ 35184372088832)) (by omega)) (Below.refl _ _) (Nat.le_refl _) ?_; intro v141 w9 ho10 hb hg_ hnew_; clear hg_ hnew_; (first | rw [← Ny140.out] at ho10 | (simp only [Int.reduceToNat] at ho10; rw [← Ny140.out] at ho10)); have HO142 := Aside0.mk (Kd.R_lower ho10 (below_size (zB HB))); replace BK135 := Aside0.mk (zKb BK135 hb); replace BK136 := Aside0.mk (zKb BK136 hb); replace BK143 := Aside0.mk (zKb BK143 hb); replace HB := Aside0.mk (below_step (zB HB) hb); clear hb ho10; refine hK.out _ _ ⟨(blk_cell BK135.out 0).trans rfl, (blk_cell BK135.out 1).trans rfl⟩ (fun hHeld => ?_); clear hK K; refine znn 12 ?_; exact znj (hJ5_7 (v141, gb143) _ ⟨hHeld, (zR HO142), (zK BK135), (zK BK136), (zK BK143), GW143.out, GE143.out, NB135_143.out, NB143_135.out, NB136_143.out, NB143_136.out, (zB HB)⟩)
               · rintro v141 w9 ⟨hS_, h0_, h1_, h2_, h3_⟩; have HO142 : Aside0 (Kd.R (Kd.int .u64) 76 w9 w.heap.size (fun _ => True) v141 y140) := ⟨h0_⟩; replace BK135 : Aside0 (w9.heap[gb135]? = some (.cells #[.int .i64 a0_0, .slice A0_1 l0_1.length c0_1] 24 (0, 0))) := ⟨h1_⟩; replace BK136 : Aside0 (w9.heap[gb136]? = some (.cells #[.int .u64 0, .slice none 0 0, .slice none 0 0] 80 (0, 0))) := ⟨h2_⟩; replace HB : Aside0 (Below w.heap.size w w9) := ⟨h3_⟩; clear h0_ h1_ h2_ h3_; have hHeld : w9.cell? ⟨gb135, 0, none⟩ = some (.int .i64 a0_0) ∧ w9.cell? ⟨gb135, 1, none⟩ = some (.slice A0_1 l0_1.length c0_1) := hS_; refine znb ?_; refine two_ (i := 2) (j := 7) (Ni := some 9) (Nj := some 3) #[true, true, true, true, true, true, false, false, false] #[true, true, false, true, true, true, false, true, false] rfl rfl rfl rfl (two_of HT_.out (by kernel_rfl)) (by decide) (by decide) (fun K hK => ?_) (fun K hK => ?_)
                 · refine Kd.R_make_step (Kd.int .u64) _ 76 (by rfl) (N := 9) rfl 78 _ _ rfl a0_0 rfl rfl Tryd.underlying78 (.int .u64 0) 8 info76 rfl (by decide) (by omega) 0 (ok := fun _ => True) (okp := fun _ => True) rfl (fun _ hk => hk) trivial (of_decide_eq_true (by first | (with_reducible assumption) | assumption)) (Nat.le_trans (Nat.mul_le_mul_right _ (of_decide_eq_true (by first | (with_reducible assumption) | assumption) : a0_0.toNat ≤ 35184372088832)) (by omega)) (Below.refl _ _) (Nat.le_refl _) ?_; intro v138 w10 ho11 hb hg_ hnew_; clear hg_ hnew_; (first | rw [← Ny137.out] at ho11 | (simp only [Int.reduceToNat] at ho11; rw [← Ny137.out] at ho11)); have HO139 := Aside0.mk (Kd.R_lower (Kd.R_new' ho11 (Kd.R_lt (zR HO142))) (below_size (zB HB))); replace HO142 := Aside0.mk (Kd.R_elder' (zR HO142) (Kd.R_base ho11) hb); replace BK135 := Aside0.mk (zKb BK135 hb); replace BK136 := Aside0.mk (zKb BK136 hb); replace HB := Aside0.mk (below_step (zB HB) hb); clear hb ho11; obtain ⟨Ao12, co12, eo12⟩ := Kd.R_slice HO142.out; (first | subst eo12 | (injection eo12 with f1_ f2_ f3_; have f4_ := f1_.symm; have f5_ := f3_.symm; clear f1_ f2_ f3_; subst f4_; subst f5_)); obtain ⟨Ao13, co13, eo13⟩ := Kd.R_slice HO139.out; (first | subst eo13 | (injection eo13 with f1_ f2_ f3_; have f4_ := f1_.symm; have f5_ := f3_.symm; clear f1_ f2_ f3_; subst f4_; subst f5_)); refine hK.out _ _ ⟨(blk_cell BK135.out 0).trans rfl, (blk_cell BK135.out 1).trans rfl⟩ (fun hHeld => ?_); clear hK K; refine znn 9 ?_; refine zpu (i := 6) (n := 13) #[true, true, true, true, true, true, true, false, false] HT_ ?_; exact znj (hJ2_5 (.slice Ao13 y137.length co13, .slice Ao12 y140.length co12) _ ⟨hHeld, (by refine zkR ?_; exact Kd.R_mono HO139.out (fun _ hk => hk.2)), (by refine zkR ?_; exact Kd.R_mono HO142.out (fun _ hk => hk.2)), (zK BK135), (zK BK136), (zB HB)⟩)
                 · refine box_step ?hg (N := 3) ?hd (cs := #[.int .u64 0, .slice none 0 0, .slice none 0 0]) (t := 80) ?hr ?_; (case hd => rfl); (case hg => rfl); (case hr => first | (go_simp; done) | (go_simp; rfl)); intro gb143 hg w10 hbox hb; have BK143 := Aside0.mk (hbox); have GW143 := Aside0.mk (zW hg HB); have GE143 := Aside0.mk (zW hg HB); have NB135_143 := Aside0.mk (zNl hg BK135); have NB143_135 := Aside0.mk (zNr hg BK135); have NB136_143 := Aside0.mk (zNl hg BK136); have NB143_136 := Aside0.mk (zNr hg BK136); replace HO142 := Aside0.mk (Kd.R_below (zR HO142) hb); replace BK135 := Aside0.mk (zKb BK135 hb); replace BK136 := Aside0.mk (zKb BK136 hb); replace HB := Aside0.mk (below_step (zB HB) hb); clear hb hbox hg; refine hK.out _ _ ⟨(blk_cell BK135.out 0).trans rfl, (blk_cell BK135.out 1).trans rfl⟩ (fun hHeld => ?_); clear hK K; refine znn 3 ?_; exact znj (hJ5_7 (v141, gb143) _ ⟨hHeld, (zR HO142), (zK BK135), (zK BK136), (zK BK143), GW143.out, GE143.out, NB135_143.out, NB143_135.out, NB136_143.out, NB143_136.out, (zB HB)⟩)
             · rintro v138 w9 ⟨hS_, h0_, h1_, h2_, h3_⟩; have HO139 : Aside0 (Kd.R (Kd.int .u64) 76 w9 w.heap.size (fun _ => True) v138 y137) := ⟨h0_⟩; replace BK135 : Aside0 (w9.heap[gb135]? = some (.cells #[.int .i64 a0_0, .slice A0_1 l0_1.length c0_1] 24 (0, 0))) := ⟨h1_⟩; replace BK136 : Aside0 (w9.heap[gb136]? = some (.cells #[.int .u64 0, .slice none 0 0, .slice none 0 0] 80 (0, 0))) := ⟨h2_⟩; replace HB : Aside0 (Below w.heap.size w w9) := ⟨h3_⟩; clear h0_ h1_ h2_ h3_; have hHeld : w9.cell? ⟨gb135, 0, none⟩ = some (.int .i64 a0_0) ∧ w9.cell? ⟨gb135, 1, none⟩ = some (.slice A0_1 l0_1.length c0_1) := hS_; refine znb ?_; refine two_ (i := 5) (j := 7) (Ni := some 12) (Nj := some 3) #[true, true, true, true, true, true, false, false, false] #[true, true, true, true, true, false, false, true, false] rfl rfl rfl rfl (two_of HT_.out (by kernel_rfl)) (by decide) (by decide) (fun K hK => ?_) (fun K hK => ?_)
               · refine Kd.R_make_step (Kd.int .u64) _ 76 (by rfl) (N := 12) rfl 78 _ _ rfl a0_0 rfl rfl Tryd.underlying78 (.int .u64 0) 8 info76 rfl (by decide) (by omega) 0 (ok := fun _ => True) (okp := fun _ => True) rfl (fun _ hk => hk) trivial (of_decide_eq_true (by first | (with_reducible assumption) | assumption)) (Nat.le_trans (Nat.mul_le_mul_right _ (of_decide_eq_true (by first | (with_reducible assumption) | assumption) : a0_0.toNat ≤ 35184372088832)) (by omega)) (Below.refl _ _) (Nat.le_refl _) ?_; intro v141 w10 ho11 hb hg_ hnew_; clear hg_ hnew_; (first | rw [← Ny140.out] at ho11 | (simp only [Int.reduceToNat] at ho11; rw [← Ny140.out] at ho11)); have HO142 := Aside0.mk (Kd.R_lower (Kd.R_new' ho11 (Kd.R_lt (zR HO139))) (below_size (zB HB))); replace HO139 := Aside0.mk (Kd.R_elder' (zR HO139) (Kd.R_base ho11) hb); replace BK135 := Aside0.mk (zKb BK135 hb); replace BK136 := Aside0.mk (zKb BK136 hb); replace HB := Aside0.mk (below_step (zB HB) hb); clear hb ho11; obtain ⟨Ao12, co12, eo12⟩ := Kd.R_slice HO142.out; (first | subst eo12 | (injection eo12 with f1_ f2_ f3_; have f4_ := f1_.symm; have f5_ := f3_.symm; clear f1_ f2_ f3_; subst f4_; subst f5_)); obtain ⟨Ao13, co13, eo13⟩ := Kd.R_slice HO139.out; (first | subst eo13 | (injection eo13 with f1_ f2_ f3_; have f4_ := f1_.symm; have f5_ := f3_.symm; clear f1_ f2_ f3_; subst f4_; subst f5_)); refine hK.out _ _ ⟨(blk_cell BK135.out 0).trans rfl, (blk_cell BK135.out 1).trans rfl⟩ (fun hHeld => ?_); clear hK K; refine znn 12 ?_; refine zpu (i := 6) (n := 13) #[true, true, true, true, true, true, true, false, false] HT_ ?_; exact znj (hJ2_5 (.slice Ao13 y137.length co13, .slice Ao12 y140.length co12) _ ⟨hHeld, (by refine zkR ?_; exact Kd.R_mono HO139.out (fun _ hk => hk.2)), (by refine zkR ?_; exact Kd.R_mono HO142.out (fun _ hk => hk.2)), (zK BK135), (zK BK136), (zB HB)⟩)
               · refine box_step ?hg (N := 3) ?hd (cs := #[.int .u64 0, .slice none 0 0, .slice none 0 0]) (t := 80) ?hr ?_; (case hd => rfl); (case hg => rfl); (case hr => first | (go_simp; done) | (go_simp; rfl)); intro gb143 hg w10 hbox hb; have BK143 := Aside0.mk (hbox); have GW143 := Aside0.mk (zW hg HB); have GE143 := Aside0.mk (zW hg HB); have NB135_143 := Aside0.mk (zNl hg BK135); have NB143_135 := Aside0.mk (zNr hg BK135); have NB136_143 := Aside0.mk (zNl hg BK136); have NB143_136 := Aside0.mk (zNr hg BK136); replace HO139 := Aside0.mk (Kd.R_below (zR HO139) hb); replace BK135 := Aside0.mk (zKb BK135 hb); replace BK136 := Aside0.mk (zKb BK136 hb); replace HB := Aside0.mk (below_step (zB HB) hb); clear hb hbox hg; refine hK.out _ _ ⟨(blk_cell BK135.out 0).trans rfl, (blk_cell BK135.out 1).trans rfl⟩ (fun hHeld => ?_); clear hK K; refine znn 3 ?_; exact znj (hJ2_7 (v138, gb143) _ ⟨hHeld, (zR HO139), (zK BK135), (zK BK136), (zK BK143), GW143.out, GE143.out, NB135_143.out, NB143_135.out, NB136_143.out, NB143_136.out, (zB HB)⟩)
           · rintro ⟨v141, gb143⟩ w10 ⟨hS_, h0_, h1_, h2_, h3_, h4_, h5_, h6_, h7_, h8_, h9_, h10_⟩; have HO142 : Aside0 (Kd.R (Kd.int .u64) 76 w10 w.heap.size (fun _ => True) v141 y140) := ⟨h0_⟩; have BK143 : Aside0 (w10.heap[gb143]? = some (.cells #[.int .u64 0, .slice none 0 0, .slice none 0 0] 80 (0, 0))) := ⟨h3_⟩; have GW143 : Aside0 (w.heap.size ≤ gb143) := ⟨h4_⟩; have GE143 : Aside0 (w.heap.size ≤ gb143) := ⟨h5_⟩; have NB135_143 : Aside0 (gb135 ≠ gb143) := ⟨h6_⟩; have NB143_135 : Aside0 (gb143 ≠ gb135) := ⟨h7_⟩; have NB136_143 : Aside0 (gb136 ≠ gb143) := ⟨h8_⟩; have NB143_136 : Aside0 (gb143 ≠ gb136) := ⟨h9_⟩; replace BK135 : Aside0 (w10.heap[gb135]? = some (.cells #[.int .i64 a0_0, .slice A0_1 l0_1.length c0_1] 24 (0, 0))) := ⟨h1_⟩; replace BK136 : Aside0 (w10.heap[gb136]? = some (.cells #[.int .u64 0, .slice none 0 0, .slice none 0 0] 80 (0, 0))) := ⟨h2_⟩; replace HB : Aside0 (Below w.heap.size w w10) := ⟨h10_⟩; clear h0_ h1_ h2_ h3_ h4_ h5_ h6_ h7_ h8_ h9_ h10_; have hHeld : w10.cell? ⟨gb135, 0, none⟩ = some (.int .i64 a0_0) ∧ w10.cell? ⟨gb135, 1, none⟩ = some (.slice A0_1 l0_1.length c0_1) := hS_; refine znb ?_; refine one_ (i := 2) (N := some 9) #[true, true, true, true, true, true, false, true, false] rfl rfl (one_of HT_.out (by kernel_rfl)) (by decide) (fun K hK => ?_); refine Kd.R_make_step (Kd.int .u64) _ 76 (by rfl) (N := 9) rfl 78 _ _ rfl a0_0 rfl rfl Tryd.underlying78 (.int .u64 0) 8 info76 rfl (by decide) (by omega) 0 (ok := fun _ => True) (okp := fun _ => True) rfl (fun _ hk => hk) trivial (of_decide_eq_true (by first | (with_reducible assumption) | assumption)) (Nat.le_trans (Nat.mul_le_mul_right _ (of_decide_eq_true (by first | (with_reducible assumption) | assumption) : a0_0.toNat ≤ 35184372088832)) (by omega)) (Below.refl _ _) (Nat.le_refl _) ?_; intro v138 w11 ho12 hb hg_ hnew_; clear hg_ hnew_; (first | rw [← Ny137.out] at ho12 | (simp only [Int.reduceToNat] at ho12; rw [← Ny137.out] at ho12)); have HO139 := Aside0.mk (Kd.R_lower (Kd.R_new' ho12 (Kd.R_lt (zR HO142))) (below_size (zB HB))); replace HO142 := Aside0.mk (Kd.R_elder' (zR HO142) (Kd.R_base ho12) hb); replace BK135 := Aside0.mk (zKb BK135 hb); replace BK136 := Aside0.mk (zKb BK136 hb); replace BK143 := Aside0.mk (zKb BK143 hb); replace HB := Aside0.mk (below_step (zB HB) hb); clear hb ho12; obtain ⟨Ao13, co13, eo13⟩ := Kd.R_slice HO142.out; (first | subst eo13 | (injection eo13 with f1_ f2_ f3_; have f4_ := f1_.symm; have f5_ := f3_.symm; clear f1_ f2_ f3_; subst f4_; subst f5_)); obtain ⟨Ao14, co14, eo14⟩ := Kd.R_slice HO139.out; (first | subst eo14 | (injection eo14 with f1_ f2_ f3_; have f4_ := f1_.symm; have f5_ := f3_.symm; clear f1_ f2_ f3_; subst f4_; subst f5_)); refine hK.out _ _ ⟨(blk_cell BK135.out 0).trans rfl, (blk_cell BK135.out 1).trans rfl⟩ (fun hHeld => ?_); clear hK K; refine znn 9 ?_; refine zpu (i := 6) (n := 13) #[true, true, true, true, true, true, true, true, false] HT_ ?_; exact znj (hJ2_5_7 (.slice Ao14 y137.length co14, .slice Ao13 y140.length co13, gb143) _ ⟨hHeld, (by refine zkR ?_; exact Kd.R_mono HO139.out (fun _ hk => hk.2)), (by refine zkR ?_; exact Kd.R_mono HO142.out (fun _ hk => hk.2)), (zK BK135), (zK BK136), (zK BK143), GW143.out, GE143.out, NB135_143.out, NB143_135.out, NB136_143.out, NB143_136.out, (zB HB)⟩)
         · rintro ⟨v138, gb143⟩ w10 ⟨hS_, h0_, h1_, h2_, h3_, h4_, h5_, h6_, h7_, h8_, h9_, h10_⟩; have HO139 : Aside0 (Kd.R (Kd.int .u64) 76 w10 w.heap.size (fun _ => True) v138 y137) := ⟨h0_⟩; have BK143 : Aside0 (w10.heap[gb143]? = some (.cells #[.int .u64 0, .slice none 0 0, .slice none 0 0] 80 (0, 0))) := ⟨h3_⟩; have GW143 : Aside0 (w.heap.size ≤ gb143) := ⟨h4_⟩; have GE143 : Aside0 (w.heap.size ≤ gb143) := ⟨h5_⟩; have NB135_143 : Aside0 (gb135 ≠ gb143) := ⟨h6_⟩; have NB143_135 : Aside0 (gb143 ≠ gb135) := ⟨h7_⟩; have NB136_143 : Aside0 (gb136 ≠ gb143) := ⟨h8_⟩; have NB143_136 : Aside0 (gb143 ≠ gb136) := ⟨h9_⟩; replace BK135 : Aside0 (w10.heap[gb135]? = some (.cells #[.int .i64 a0_0, .slice A0_1 l0_1.length c0_1] 24 (0, 0))) := ⟨h1_⟩; replace BK136 : Aside0 (w10.heap[gb136]? = some (.cells #[.int .u64 0, .slice none 0 0, .slice none 0 0] 80 (0, 0))) := ⟨h2_⟩; replace HB : Aside0 (Below w.heap.size w w10) := ⟨h10_⟩; clear h0_ h1_ h2_ h3_ h4_ h5_ h6_ h7_ h8_ h9_ h10_; have hHeld : w10.cell? ⟨gb135, 0, none⟩ = some (.int .i64 a0_0) ∧ w10.cell? ⟨gb135, 1, none⟩ = some (.slice A0_1 l0_1.length c0_1) := hS_; refine znb ?_; refine one_ (i := 5) (N := some 12) #[true, true, true, true, true, true, false, true, false] rfl rfl (one_of HT_.out (by kernel_rfl)) (by decide) (fun K hK => ?_); refine Kd.R_make_step (Kd.int .u64) _ 76 (by rfl) (N := 12) rfl 78 _ _ rfl a0_0 rfl rfl Tryd.underlying78 (.int .u64 0) 8 info76 rfl (by decide) (by omega) 0 (ok := fun _ => True) (okp := fun _ => True) rfl (fun _ hk => hk) trivial (of_decide_eq_true (by first | (with_reducible assumption) | assumption)) (Nat.le_trans (Nat.mul_le_mul_right _ (of_decide_eq_true (by first | (with_reducible assumption) | assumption) : a0_0.toNat ≤ 35184372088832)) (by omega)) (Below.refl _ _) (Nat.le_refl _) ?_; intro v141 w11 ho12 hb hg_ hnew_; clear hg_ hnew_; (first | rw [← Ny140.out] at ho12 | (simp only [Int.reduceToNat] at ho12; rw [← Ny140.out] at ho12)); have HO142 := Aside0.mk (Kd.R_lower (Kd.R_new' ho12 (Kd.R_lt (zR HO139))) (below_size (zB HB))); replace HO139 := Aside0.mk (Kd.R_elder' (zR HO139) (Kd.R_base ho12) hb); replace BK135 := Aside0.mk (zKb BK135 hb); replace BK136 := Aside0.mk (zKb BK136 hb); replace BK143 := Aside0.mk (zKb BK143 hb); replace HB := Aside0.mk (below_step (zB HB) hb); clear hb ho12; obtain ⟨Ao13, co13, eo13⟩ := Kd.R_slice HO142.out; (first | subst eo13 | (injection eo13 with f1_ f2_ f3_; have f4_ := f1_.symm; have f5_ := f3_.symm; clear f1_ f2_ f3_; subst f4_; subst f5_)); obtain ⟨Ao14, co14, eo14⟩ := Kd.R_slice HO139.out; (first | subst eo14 | (injection eo14 with f1_ f2_ f3_; have f4_ := f1_.symm; have f5_ := f3_.symm; clear f1_ f2_ f3_; subst f4_; subst f5_)); refine hK.out _ _ ⟨(blk_cell BK135.out 0).trans rfl, (blk_cell BK135.out 1).trans rfl⟩ (fun hHeld => ?_); clear hK K; refine znn 12 ?_; refine zpu (i := 6) (n := 13) #[true, true, true, true, true, true, true, true, false] HT_ ?_; exact znj (hJ2_5_7 (.slice Ao14 y137.length co14, .slice Ao13 y140.length co13, gb143) _ ⟨hHeld, (by refine zkR ?_; exact Kd.R_mono HO139.out (fun _ hk => hk.2)), (by refine zkR ?_; exact Kd.R_mono HO142.out (fun _ hk => hk.2)), (zK BK135), (zK BK136), (zK BK143), GW143.out, GE143.out, NB135_143.out, NB143_135.out, NB136_143.out, NB143_136.out, (zB HB)⟩)
       · rintro ⟨v138, v141⟩ w13 ⟨hS_, h0_, h1_, h2_, h3_, h4_⟩; have HO139 : Aside0 (Kd.R (Kd.int .u64) 76 w13 w.heap.size (fun k_ => some k_ ≠ (v141 : Value).ownBlock) v138 y137) := ⟨h0_⟩; have HO142 : Aside0 (Kd.R (Kd.int .u64) 76 w13 w.heap.size (fun k_ => some k_ ≠ (v138 : Value).ownBlock) v141 y140) := ⟨h1_⟩; replace BK135 : Aside0 (w13.heap[gb135]? = some (.cells #[.int .i64 a0_0, .slice A0_1 l0_1.length c0_1] 24 (0, 0))) := ⟨h2_⟩; replace BK136 : Aside0 (w13.heap[gb136]? = some (.cells #[.int .u64 0, .slice none 0 0, .slice none 0 0] 80 (0, 0))) := ⟨h3_⟩; replace HB : Aside0 (Below w.heap.size w w13) := ⟨h4_⟩; clear h0_ h1_ h2_ h3_ h4_; have hHeld : w13.cell? ⟨gb135, 0, none⟩ = some (.int .i64 a0_0) ∧ w13.cell? ⟨gb135, 1, none⟩ = some (.slice A0_1 l0_1.length c0_1) := hS_; obtain ⟨Ao14, co14, eo14⟩ := Kd.R_slice HO142.out; (first | subst eo14 | (injection eo14 with f1_ f2_ f3_; have f4_ := f1_.symm; have f5_ := f3_.symm; clear f1_ f2_ f3_; subst f4_; subst f5_)); obtain ⟨Ao15, co15, eo15⟩ := Kd.R_slice HO139.out; (first | subst eo15 | (injection eo15 with f1_ f2_ f3_; have f4_ := f1_.symm; have f5_ := f3_.symm; clear f1_ f2_ f3_; subst f4_; subst f5_)); refine znb ?_; refine one_ (i := 7) (N := some 3) #[true, true, true, true, true, true, true, true, false] rfl rfl (one_of HT_.out (by kernel_rfl)) (by decide) (fun K hK => ?_); refine box_step ?hg (N := 3) ?hd (cs := #[.int .u64 0, .slice none 0 0, .slice none 0 0]) (t := 80) ?hr ?_; (case hd => rfl); (case hg => rfl); (case hr => first | (go_simp; done) | (go_simp; rfl)); intro gb143 hg w16 hbox hb; have BK143 := Aside0.mk (hbox); have GW143 := Aside0.mk (zW hg HB); have GE143 := Aside0.mk (zW hg HB); have NB135_143 := Aside0.mk (zNl hg BK135); have NB143_135 := Aside0.mk (zNr hg BK135); have NB136_143 := Aside0.mk (zNl hg BK136); have NB143_136 := Aside0.mk (zNr hg BK136); replace HO139 := Aside0.mk (Kd.R_below (zR HO139) hb); replace HO142 := Aside0.mk (Kd.R_below (zR HO142) hb); replace BK135 := Aside0.mk (zKb BK135 hb); replace BK136 := Aside0.mk (zKb BK136 hb); replace HB := Aside0.mk (below_step (zB HB) hb); clear hb hbox hg; refine hK.out _ _ ⟨(blk_cell BK135.out 0).trans rfl, (blk_cell BK135.out 1).trans rfl⟩ (fun hHeld => ?_); clear hK K; refine znn 3 ?_; exact znj (hJ2_5_7 (.slice Ao15 y137.length co15, .slice Ao14 y140.length co14, gb143) _ ⟨hHeld, (zR HO139), (zR HO142), (zK BK135), (zK BK136), (zK BK143), GW143.out, GE143.out, NB135_143.out, NB143_135.out, NB136_143.out, NB143_136.out, (zB HB)⟩)
     rintro ⟨v138, v141, gb143⟩ w14 ⟨hS_, h0_, h1_, h2_, h3_, h4_, h5_, h6_, h7_, h8_, h9_, h10_, h11_⟩; have HO139 : Aside0 (Kd.R (Kd.int .u64) 76 w14 w.heap.size (fun k_ => some k_ ≠ (v141 : Value).ownBlock) v138 y137) := ⟨h0_⟩; have HO142 : Aside0 (Kd.R (Kd.int .u64) 76 w14 w.heap.size (fun k_ => some k_ ≠ (v138 : Value).ownBlock) v141 y140) := ⟨h1_⟩; have BK143 : Aside0 (w14.heap[gb143]? = some (.cells #[.int .u64 0, .slice none 0 0, .slice none 0 0] 80 (0, 0))) := ⟨h4_⟩; have GW143 : Aside0 (w.heap.size ≤ gb143) := ⟨h5_⟩; have GE143 : Aside0 (w.heap.size ≤ gb143) := ⟨h6_⟩; have NB135_143 : Aside0 (gb135 ≠ gb143) := ⟨h7_⟩; have NB143_135 : Aside0 (gb143 ≠ gb135) := ⟨h8_⟩; have NB136_143 : Aside0 (gb136 ≠ gb143) := ⟨h9_⟩; have NB143_136 : Aside0 (gb143 ≠ gb136) := ⟨h10_⟩; replace BK135 : Aside0 (w14.heap[gb135]? = some (.cells #[.int .i64 a0_0, .slice A0_1 l0_1.length c0_1] 24 (0, 0))) := ⟨h2_⟩; replace BK136 : Aside0 (w14.heap[gb136]? = some (.cells #[.int .u64 0, .slice none 0 0, .slice none 0 0] 80 (0, 0))) := ⟨h3_⟩; replace HB : Aside0 (Below w.heap.size w w14) := ⟨h11_⟩; clear h0_ h1_ h2_ h3_ h4_ h5_ h6_ h7_ h8_ h9_ h10_ h11_; have hHeld : w14.cell? ⟨gb135, 0, none⟩ = some (.int .i64 a0_0) ∧ w14.cell? ⟨gb135, 1, none⟩ = some (.slice A0_1 l0_1.length c0_1) := hS_; obtain ⟨Ao15, co15, eo15⟩ := Kd.R_slice HO142.out; (first | subst eo15 | (injection eo15 with f1_ f2_ f3_; have f4_ := f1_.symm; have f5_ := f3_.symm; clear f1_ f2_ f3_; subst f4_; subst f5_)); obtain ⟨Ao16, co16, eo16⟩ := Kd.R_slice HO139.out; (first | subst eo16 | (injection eo16 with f1_ f2_ f3_; have f4_ := f1_.symm; have f5_ := f3_.symm; clear f1_ f2_ f3_; subst f4_; subst f5_)); refine znb ?_; refine one_ (i := 8) (N := none) #[true, true, true, true, true, true, true, true, true] rfl rfl (one_of HT_.out (by kernel_rfl)) (by decide) (fun K hK => ?_); have hs17 := zc BK143 0; have hfs17 := blk_frozen BK143.out 0; have hns17_0 := NB135_143.out; have hns17_1 := NB136_143.out; have hms17_0 := NB143_135.out; have hms17_1 := NB143_136.out; have hs18 := zc BK143 1; have hfs18 := blk_frozen BK143.out 1; have hns18_0 := NB135_143.out; have hns18_1 := NB136_143.out; have hms18_0 := NB143_135.out; have hms18_1 := NB143_136.out; have hs19 := zc BK143 2; have hfs19 := blk_frozen BK143.out 2; have hns19_0 := NB135_143.out; have hns19_1 := NB136_143.out; have hms19_0 := NB143_135.out; have hms19_1 := NB143_136.out; refine skip_ (w1 := ?_) (by rfl) rfl ?_ ?_; rotate_left; · go_simp; rfl
     refine hK.out _ _ ⟨((cell_far (p := ⟨gb143, _, none⟩) NB135_143.out _).trans (((cell_far (p := ⟨gb143, _, none⟩) NB135_143.out _).trans (((cell_far (p := ⟨gb143, _, none⟩) NB135_143.out _).trans (hHeld.1)))))), ((cell_far (p := ⟨gb143, _, none⟩) NB135_143.out _).trans (((cell_far (p := ⟨gb143, _, none⟩) NB135_143.out _).trans (((cell_far (p := ⟨gb143, _, none⟩) NB135_143.out _).trans (hHeld.2))))))⟩ (fun hHeld => ?_); clear hK K; refine done_ (done_of HT_.out (by kernel_rfl)) ?_; have hnb20 := NB135_136.out; have hnc20 := NB136_135.out; have hnb21 := NB135_143.out; have hnc21 := NB143_135.out; have hcz22_0 := zc BK135 0; have hcz22_1 := zc BK135 1; have hfz22_0 := blk_frozen BK135.out 0; have hfz22_1 := blk_frozen BK135.out 1; try go_wp2
     go_loopg [16] k (fun kq v16 w' => ∃ (x16_1 : Int) (x144000_1 : Int), v16 = .int .i64 x16_1 ∧ Aside0 (network_New.l0 kq a0_0 x16_1 a0_0 l0_1 x144000_1 y137 y140 = some (r1, r2, r3)) ∧ Aside0 (kq ≤ k) ∧ Aside0 (Kd.R (Kd.int .u64) 76 w' w.heap.size (fun k_ => some k_ ≠ ((.slice Ao15 y140.length co15) : Value).ownBlock) (.slice Ao16 y137.length co16) y137) ∧ Aside0 (Kd.R (Kd.int .u64) 76 w' w.heap.size (fun k_ => some k_ ≠ ((.slice Ao16 y137.length co16) : Value).ownBlock) (.slice Ao15 y140.length co15) y140) ∧ Aside0 (w'.heap[gb135]? = some (.cells #[.int .i64 a0_0, (.slice A0_1 l0_1.length c0_1)] 24 (0, 0))) ∧ Aside0 (w'.heap[gb136]? = some (.cells #[.int .u64 0, (.slice none 0 0), (.slice none 0 0)] 80 (0, 0))) ∧ Aside0 (w'.heap[gb143]? = some (.cells #[.int .u64 x144000_1, (.slice Ao16 y137.length co16), (.slice Ao15 y140.length co15)] 80 (0, 0))) ∧ Aside0 (Below w.heap.size w w'))
     case atStart => exact ⟨(0), (0), zv, H', ⟨Nat.le_refl _⟩, ⟨by refine zkR ?_; exact Kd.R_mono (Kd.R_far (p := ⟨gb143, 2, none⟩) (Kd.R_far (p := ⟨gb143, 1, none⟩) (Kd.R_far (p := ⟨gb143, 0, none⟩) (Kd.R_types HO139.out BK143.out (by decide)) (fun _ hk => hk.2) (.int .u64 0)) (fun _ hk => hk.2) (.slice Ao16 y137.length co16)) (fun _ hk => hk.2) (.slice Ao15 y140.length co15)) (fun _ hk => hk.1)⟩, ⟨by refine zkR ?_; exact Kd.R_mono (Kd.R_far (p := ⟨gb143, 2, none⟩) (Kd.R_far (p := ⟨gb143, 1, none⟩) (Kd.R_far (p := ⟨gb143, 0, none⟩) (Kd.R_types HO142.out BK143.out (by decide)) (fun _ hk => hk.2) (.int .u64 0)) (fun _ hk => hk.2) (.slice Ao16 y137.length co16)) (fun _ hk => hk.2) (.slice Ao15 y140.length co15)) (fun _ hk => hk.1)⟩, ⟨by refine zk ?_; refine blk_far ?_ NB135_143.out _; refine zk ?_; refine blk_far ?_ NB135_143.out _; refine zk ?_; refine blk_far ?_ NB135_143.out _; refine zk ?_; exact BK135.out⟩, ⟨by refine zk ?_; refine blk_far ?_ NB136_143.out _; refine zk ?_; refine blk_far ?_ NB136_143.out _; refine zk ?_; refine blk_far ?_ NB136_143.out _; refine zk ?_; exact BK136.out⟩, ⟨by refine zk ?_; refine blk_put (cs := #[.int .u64 0, .slice Ao16 y137.length co16, .slice none 0 0]) ?_ 2 _ rfl; refine zk ?_; refine blk_put (cs := #[.int .u64 0, .slice none 0 0, .slice none 0 0]) ?_ 1 _ rfl; refine zk ?_; refine blk_put (cs := #[.int .u64 0, .slice none 0 0, .slice none 0 0]) ?_ 0 _ rfl; refine zk ?_; exact BK143.out⟩, ⟨zB HB⟩⟩
     case round =>
      clear H'; try clear c2
      try clear p2
      try clear c20
      try clear c21
      try clear hcz22_0
      try clear hcz22_1
      try clear hfz22_0
      try clear hfz22_1
      obtain ⟨x16_1, x144000_1, rfl, HA, HK1, HO_144001, HO_144002, BK135, BK136, BK143, HB⟩ := hrel; cases gk with
      | zero => exact absurd HA.out (by simp [network_New.l0])
      | succ k1 =>
       have H := HA.out; clear HA; simp only [network_New.l0] at H; by_cases c23 : x16_1 < a0_0
       · rw [if_pos c23] at H; have c23b0 : decide (x16_1 < a0_0) = true := decide_eq_true c23; clear c23; replace H := Option.bind_eq_some_iff.mp H; obtain ⟨t144, A240, H⟩ := H; replace H : (network_New.l0 k1 a0_0 (wrap64 (x16_1 + 1)) a0_0 l0_1 t144 y137 y140) = some (r1, r2, r3) := H; have A24 := Aside0.mk A240; clear A240; have H' := Aside0.mk H; clear H; have hnb25 := NB143_135.out; have hnc25 := NB135_143.out; have hnb26 := NB143_136.out; have hnc26 := NB136_143.out; have hcz27_0 := zc BK143 0; have hcz27_1 := zc BK143 1; have hcz27_2 := zc BK143 2; have hfz27_0 := blk_frozen BK143.out 0; have hfz27_1 := blk_frozen BK143.out 1; have hfz27_2 := blk_frozen BK143.out 2; go_wp2_with (first | ((with_reducible refine gate_callee (f := 51) rfl ?_); refine zG (some 22) rfl Tryd.func51 #[.int .u64 x144000_1, .int .i64 x16_1] ?_; (with_reducible refine (network_Set_With.calls x144000_1 x16_1 t144 _ A24.out).mono ?_); rintro e w' ⟨rfl, ⟨nd, rfl⟩⟩; refine ⟨_, rfl, ?_⟩)); go_roundg k1
         case measure => have := HK1.out; omega
         case rel => exact ⟨(wrap64 (x16_1 + 1)), (t144), zv, H', ⟨by have := HK1.out; omega⟩, ⟨by refine zkR ?_; exact Kd.R_mono (Kd.R_far (p := ⟨gb143, 0, none⟩) (Kd.R_types HO_144001.out BK143.out (by decide)) (fun _ hk => hk.2) (.int .u64 t144)) (fun _ hk => hk.1)⟩, ⟨by refine zkR ?_; exact Kd.R_mono (Kd.R_far (p := ⟨gb143, 0, none⟩) (Kd.R_types HO_144002.out BK143.out (by decide)) (fun _ hk => hk.2) (.int .u64 t144)) (fun _ hk => hk.1)⟩, ⟨by refine zk ?_; refine blk_far ?_ NB135_143.out _; refine zk ?_; exact BK135.out⟩, ⟨by refine zk ?_; refine blk_far ?_ NB136_143.out _; refine zk ?_; exact BK136.out⟩, ⟨by refine zk ?_; refine blk_put (cs := #[.int .u64 x144000_1, .slice Ao16 y137.length co16, .slice Ao15 y140.length co15]) ?_ 0 _ rfl; refine zk ?_; exact BK143.out⟩, ⟨zB HB⟩⟩
       · rw [if_neg c23] at H; have c23b0 : decide (x16_1 < a0_0) = false := decide_eq_false c23; clear c23; have H' := Aside0.mk H; clear H; have hnb28 := NB135_136.out; have hnc28 := NB136_135.out; have hnb29 := NB135_143.out; have hnc29 := NB143_135.out; have hcz30_0 := zc BK135 0; have hcz30_1 := zc BK135 1; have hfz30_0 := blk_frozen BK135.out 0; have hfz30_1 := blk_frozen BK135.out 1; go_wp2; go_loopg [28] k1 (fun kq v28 w' => ∃ (x28_2 : Int) (x144001_2 : List Int) (x144002_2 : List Int) (u144001 : Value) (u144002 : Value), v28 = .int .i64 x28_2 ∧ Aside0 (network_New.l1 kq l0_1 (l0_1.length : Int) x28_2 x144000_1 x144001_2 x144002_2 = some (r1, r2, r3)) ∧ Aside0 (kq ≤ k1) ∧ Aside0 (Kd.R (Kd.int .u64) 76 w' w.heap.size (fun k_ => some k_ ≠ (u144002 : Value).ownBlock) u144001 x144001_2) ∧ Aside0 (Kd.R (Kd.int .u64) 76 w' w.heap.size (fun k_ => some k_ ≠ (u144001 : Value).ownBlock) u144002 x144002_2) ∧ Aside0 (w'.heap[gb135]? = some (.cells #[.int .i64 a0_0, (.slice A0_1 l0_1.length c0_1)] 24 (0, 0))) ∧ Aside0 (w'.heap[gb136]? = some (.cells #[.int .u64 0, (.slice none 0 0), (.slice none 0 0)] 80 (0, 0))) ∧ Aside0 (w'.heap[gb143]? = some (.cells #[.int .u64 x144000_1, u144001, u144002] 80 (0, 0))) ∧ Aside0 (Below w.heap.size w w'))
         case atStart => exact ⟨(0), (y137), (y140), (.slice Ao16 y137.length co16), (.slice Ao15 y140.length co15), zv, H', ⟨Nat.le_refl _⟩, ⟨zR HO_144001⟩, ⟨zR HO_144002⟩, ⟨zK BK135⟩, ⟨zK BK136⟩, ⟨zK BK143⟩, ⟨zB HB⟩⟩
         case round =>
          clear H'; try clear c2
          try clear p2
          try clear c5
          try clear p6
          try clear c20
          try clear c21
          try clear c23
          try clear c23b0
          try clear c25
          try clear c26
          try clear c28
          try clear c29
          try clear hcz22_0
          try clear hcz22_1
          try clear hcz27_0
          try clear hcz27_1
          try clear hcz27_2
          try clear hcz30_0
          try clear hcz30_1
          try clear hfz22_0
          try clear hfz22_1
          try clear hfz27_0
          try clear hfz27_1
          try clear hfz27_2
          try clear hfz30_0
          try clear hfz30_1
          try clear p2
          obtain ⟨x28_2, x144001_2, x144002_2, u144001, u144002, rfl, HA, HK2, HO_144001, HO_144002, BK135, BK136, BK143, HB⟩ := hrel; cases gk with
          | zero => exact absurd HA.out (by simp [network_New.l1])
          | succ k2 =>
           have H := HA.out; clear HA; simp only [network_New.l1] at H; by_cases c31 : x28_2 < (l0_1.length : Int)
           · rw [if_pos c31] at H; have c31b0 : decide (x28_2 < (l0_1.length : Int)) = true := decide_eq_true c31; clear c31; by_cases c32 : 0 ≤ x28_2
             · rw [if_pos c32] at H; have c32b0 : decide (0 ≤ x28_2) = true := decide_eq_true c32; clear c32; by_cases c33 : x28_2 < (l0_1.length : Int)
               · rw [if_pos c33] at H; have c33b0 : decide (x28_2 < (l0_1.length : Int)) = true := decide_eq_true c33; clear c33; by_cases c34 : 0 ≤ ((rd_T42 l0_1 x28_2).f1)
                 · rw [if_pos c34] at H; have c34b0 : decide (0 ≤ ((rd_T42 l0_1 x28_2).f1)) = true := decide_eq_true c34; clear c34; by_cases c35 : ((rd_T42 l0_1 x28_2).f1) < (x144001_2.length : Int)
                   · rw [if_pos c35] at H; have c35b0 : decide (((rd_T42 l0_1 x28_2).f1) < (x144001_2.length : Int)) = true := decide_eq_true c35; clear c35; replace H := Option.bind_eq_some_iff.mp H; obtain ⟨t148, A360, H⟩ := H; replace H : (if 0 ≤ ((rd_T42 l0_1 x28_2).f0) then (if ((rd_T42 l0_1 x28_2).f0) < (x144002_2.length : Int) then ((network_Set_With.f (rd x144002_2 ((rd_T42 l0_1 x28_2).f0)) ((rd_T42 l0_1 x28_2).f1)).bind fun t151 => (network_New.l1 k2 l0_1 (l0_1.length : Int) (wrap64 (x28_2 + 1)) x144000_1 (x144001_2.set (((rd_T42 l0_1 x28_2).f1) : Int).toNat t148) (x144002_2.set (((rd_T42 l0_1 x28_2).f0) : Int).toNat t151))) else (none)) else (none)) = some (r1, r2, r3) := H; have A36 := Aside0.mk A360; clear A360; obtain ⟨y149, hy149⟩ : ∃ y_ : List Int, y_ = (x144001_2.set (((rd_T42 l0_1 x28_2).f1) : Int).toNat t148) := ⟨_, rfl⟩; replace H : (if 0 ≤ ((rd_T42 l0_1 x28_2).f0) then (if ((rd_T42 l0_1 x28_2).f0) < (x144002_2.length : Int) then ((network_Set_With.f (rd x144002_2 ((rd_T42 l0_1 x28_2).f0)) ((rd_T42 l0_1 x28_2).f1)).bind fun t151 => (network_New.l1 k2 l0_1 (l0_1.length : Int) (wrap64 (x28_2 + 1)) x144000_1 y149 (x144002_2.set (((rd_T42 l0_1 x28_2).f0) : Int).toNat t151))) else (none)) else (none)) = some (r1, r2, r3) := by first | (rw [hy149]; with_reducible exact H) | (have H2_ := (Option.bind_some _ _).symm.trans H; rw [hy149]; with_reducible exact H2_) | (have H2_ := (Option.bind_some _ _).symm.trans H; with_reducible exact H2_) | with_reducible exact H | (rw [hy149]; exact H) | exact H
                     have Ny149 := Aside0.mk hy149; clear hy149; by_cases c38 : 0 ≤ ((rd_T42 l0_1 x28_2).f0)
                     · rw [if_pos c38] at H; have c38b0 : decide (0 ≤ ((rd_T42 l0_1 x28_2).f0)) = true := decide_eq_true c38; clear c38; by_cases c39 : ((rd_T42 l0_1 x28_2).f0) < (x144002_2.length : Int)
                       · rw [if_pos c39] at H; have c39b0 : decide (((rd_T42 l0_1 x28_2).f0) < (x144002_2.length : Int)) = true := decide_eq_true c39; clear c39; replace H := Option.bind_eq_some_iff.mp H; obtain ⟨t151, A400, H⟩ := H; replace H : (network_New.l1 k2 l0_1 (l0_1.length : Int) (wrap64 (x28_2 + 1)) x144000_1 y149 (x144002_2.set (((rd_T42 l0_1 x28_2).f0) : Int).toNat t151)) = some (r1, r2, r3) := H; have A40 := Aside0.mk A400; clear A400; obtain ⟨y152, hy152⟩ : ∃ y_ : List Int, y_ = (x144002_2.set (((rd_T42 l0_1 x28_2).f0) : Int).toNat t151) := ⟨_, rfl⟩; replace H : (network_New.l1 k2 l0_1 (l0_1.length : Int) (wrap64 (x28_2 + 1)) x144000_1 y149 y152) = some (r1, r2, r3) := by first | (rw [hy152]; with_reducible exact H) | (have H2_ := (Option.bind_some _ _).symm.trans H; rw [hy152]; with_reducible exact H2_) | (have H2_ := (Option.bind_some _ _).symm.trans H; with_reducible exact H2_) | with_reducible exact H | (rw [hy152]; exact H) | exact H
                         have Ny152 := Aside0.mk hy152; clear hy152; have H' := Aside0.mk H; clear H; have p145 : 0 ≤ (x28_2 : Int) := of_decide_eq_true (by first | (with_reducible assumption) | assumption); have q145 : x28_2 < (l0_1.length : Int) := of_decide_eq_true (by first | (with_reducible assumption) | assumption); obtain ⟨ad145, e145, hx145_0, hx145_1⟩ := at_T42 HR0_1.out x28_2 p145 q145; cases e145; replace hx145_0 := (HB.out.cell (World.block_lt_of_cell? w _ hx145_0)).trans hx145_0; replace hx145_1 := (HB.out.cell (World.block_lt_of_cell? w _ hx145_1)).trans hx145_1; replace p145 := eq_true p145; replace q145 := eq_true q145; try go_wp2_with (first | ((with_reducible refine gate_dst (N := 6) rfl ?_); refine zX (N := 6) (cs := #[.int .i64 0, .int .i64 0]) (t := 42) ?_; intro gb146 hg w42 hbox hb; have BK146 := Aside0.mk (hbox); have GW146 := Aside0.mk (zW hg HB); have GE146 := Aside0.mk (zW hg HB); have NB135_146 := Aside0.mk (zNl hg BK135); have NB146_135 := Aside0.mk (zNr hg BK135); have NB136_146 := Aside0.mk (zNl hg BK136); have NB146_136 := Aside0.mk (zNr hg BK136); have NB143_146 := Aside0.mk (zNl hg BK143); have NB146_143 := Aside0.mk (zNr hg BK143); replace HO_144001 := Aside0.mk (Kd.R_below (zR HO_144001) hb); replace HO_144002 := Aside0.mk (Kd.R_below (zR HO_144002) hb); replace BK135 := Aside0.mk (zKb BK135 hb); replace BK136 := Aside0.mk (zKb BK136 hb); replace BK143 := Aside0.mk (zKb BK143 hb); replace HB := Aside0.mk (below_step (zB HB) hb); clear hb hbox hg; have hnb43 := NB146_135.out; have hnc43 := NB135_146.out; have hnb44 := NB146_136.out; have hnc44 := NB136_146.out; have hnb45 := NB146_143.out; have hnc45 := NB143_146.out; have hcz46_0 := zc BK146 0; have hcz46_1 := zc BK146 1; have hfz46_0 := blk_frozen BK146.out 0; have hfz46_1 := blk_frozen BK146.out 1))
                         have n0_ : Aside0 (Kd.R (Kd.int .u64) 76 ((w42.setCell ⟨gb146, 0, none⟩ (.int .i64 ((rd_T42 l0_1 x28_2).f0))).setCell ⟨gb146, 1, none⟩ (.int .i64 ((rd_T42 l0_1 x28_2).f1))) w.heap.size (fun k_ => some k_ ≠ (u144002 : Value).ownBlock) u144001 x144001_2) := ⟨by refine zkR ?_; exact Kd.R_mono (Kd.R_far (p := ⟨gb146, 1, none⟩) (Kd.R_far (p := ⟨gb146, 0, none⟩) (Kd.R_types HO_144001.out BK146.out (by decide)) (fun _ hk => hk.2) (.int .i64 ((rd_T42 l0_1 x28_2).f0))) (fun _ hk => hk.2) (.int .i64 ((rd_T42 l0_1 x28_2).f1))) (fun _ hk => hk.1)⟩; have n1_ : Aside0 (Kd.R (Kd.int .u64) 76 ((w42.setCell ⟨gb146, 0, none⟩ (.int .i64 ((rd_T42 l0_1 x28_2).f0))).setCell ⟨gb146, 1, none⟩ (.int .i64 ((rd_T42 l0_1 x28_2).f1))) w.heap.size (fun k_ => some k_ ≠ (u144001 : Value).ownBlock) u144002 x144002_2) := ⟨by refine zkR ?_; exact Kd.R_mono (Kd.R_far (p := ⟨gb146, 1, none⟩) (Kd.R_far (p := ⟨gb146, 0, none⟩) (Kd.R_types HO_144002.out BK146.out (by decide)) (fun _ hk => hk.2) (.int .i64 ((rd_T42 l0_1 x28_2).f0))) (fun _ hk => hk.2) (.int .i64 ((rd_T42 l0_1 x28_2).f1))) (fun _ hk => hk.1)⟩; have n2_ : Aside0 (((w42.setCell ⟨gb146, 0, none⟩ (.int .i64 ((rd_T42 l0_1 x28_2).f0))).setCell ⟨gb146, 1, none⟩ (.int .i64 ((rd_T42 l0_1 x28_2).f1))).heap[gb135]? = some (.cells #[.int .i64 a0_0, .slice (some ad145) l0_1.length c0_1] 24 (0, 0))) := ⟨by refine zk ?_; refine blk_far ?_ NB135_146.out _; refine zk ?_; refine blk_far ?_ NB135_146.out _; refine zk ?_; exact BK135.out⟩; have n3_ : Aside0 (((w42.setCell ⟨gb146, 0, none⟩ (.int .i64 ((rd_T42 l0_1 x28_2).f0))).setCell ⟨gb146, 1, none⟩ (.int .i64 ((rd_T42 l0_1 x28_2).f1))).heap[gb136]? = some (.cells #[.int .u64 0, .slice none 0 0, .slice none 0 0] 80 (0, 0))) := ⟨by refine zk ?_; refine blk_far ?_ NB136_146.out _; refine zk ?_; refine blk_far ?_ NB136_146.out _; refine zk ?_; exact BK136.out⟩; have n4_ : Aside0 (((w42.setCell ⟨gb146, 0, none⟩ (.int .i64 ((rd_T42 l0_1 x28_2).f0))).setCell ⟨gb146, 1, none⟩ (.int .i64 ((rd_T42 l0_1 x28_2).f1))).heap[gb143]? = some (.cells #[.int .u64 x144000_1, u144001, u144002] 80 (0, 0))) := ⟨by refine zk ?_; refine blk_far ?_ NB143_146.out _; refine zk ?_; refine blk_far ?_ NB143_146.out _; refine zk ?_; exact BK143.out⟩; have n5_ : Aside0 (((w42.setCell ⟨gb146, 0, none⟩ (.int .i64 ((rd_T42 l0_1 x28_2).f0))).setCell ⟨gb146, 1, none⟩ (.int .i64 ((rd_T42 l0_1 x28_2).f1))).heap[gb146]? = some (.cells #[.int .i64 ((rd_T42 l0_1 x28_2).f0), .int .i64 ((rd_T42 l0_1 x28_2).f1)] 42 (0, 0))) := ⟨by refine zk ?_; refine blk_put (cs := #[.int .i64 ((rd_T42 l0_1 x28_2).f0), .int .i64 0]) ?_ 1 _ rfl; refine zk ?_; refine blk_put (cs := #[.int .i64 0, .int .i64 0]) ?_ 0 _ rfl; refine zk ?_; exact BK146.out⟩; have n6_ : Aside0 (Below w.heap.size w ((w42.setCell ⟨gb146, 0, none⟩ (.int .i64 ((rd_T42 l0_1 x28_2).f0))).setCell ⟨gb146, 1, none⟩ (.int .i64 ((rd_T42 l0_1 x28_2).f1)))) := ⟨zB HB⟩; (try clear HO_144001); (try clear HO_144002); (try clear BK135); (try clear BK136); (try clear BK143); (try clear BK146); (try clear HB); (try rw [show ∀ (W_ : World) (n_ : Nat) (a_ : Addr) (v_ : Value), (W_.drewN n_).setCell a_ v_ = (W_.setCell a_ v_).drewN n_ from fun _ _ _ _ => rfl]); generalize ((w42.setCell ⟨gb146, 0, none⟩ (.int .i64 ((rd_T42 l0_1 x28_2).f0))).setCell ⟨gb146, 1, none⟩ (.int .i64 ((rd_T42 l0_1 x28_2).f1))) = w47 at n0_ n1_ n2_ n3_ n4_ n5_ n6_ ⊢; have HO_144001 := n0_; have HO_144002 := n1_; have BK135 := n2_; have BK136 := n3_; have BK143 := n4_; have BK146 := n5_; have HB := n6_; clear n0_ n1_ n2_ n3_ n4_ n5_ n6_; replace HO_144001 := Aside0.mk (Kd.R_drew HO_144001.out); replace HO_144002 := Aside0.mk (Kd.R_drew HO_144002.out); replace BK135 := Aside0.mk (blk_drew BK135.out); replace BK136 := Aside0.mk (blk_drew BK136.out); replace BK143 := Aside0.mk (blk_drew BK143.out); replace BK146 := Aside0.mk (blk_drew BK146.out); replace HB := Aside0.mk (below_drew1 HB.out); obtain ⟨Ao49, co49, eo49⟩ := Kd.R_slice HO_144001.out; (first | subst eo49 | (injection eo49 with f1_ f2_ f3_; have f4_ := f1_.symm; have f5_ := f3_.symm; clear f1_ f2_ f3_; subst f4_; subst f5_)); have p147 : 0 ≤ (((rd_T42 l0_1 x28_2).f1) : Int) := of_decide_eq_true (by first | (with_reducible assumption) | assumption); have q147 : ((rd_T42 l0_1 x28_2).f1) < (x144001_2.length : Int) := of_decide_eq_true (by first | (with_reducible assumption) | assumption); obtain ⟨ad147, e147, hx147_0⟩ := Kd.at_int (Kd.R_reads' HO_144001.out).2.2 ((rd_T42 l0_1 x28_2).f1) p147 q147; cases e147; replace p147 := eq_true p147; replace q147 := eq_true q147; refine start_ (n := 15) (S := fun w' => w'.cell? ⟨gb143, 0, none⟩ = some (.int .u64 x144000_1) ∧ w'.cell? ⟨gb143, 1, none⟩ = some (.slice (some ad147) x144001_2.length co49) ∧ w'.cell? ⟨gb143, 2, none⟩ = some (u144002) ∧ w'.cell? ⟨gb146, 0, none⟩ = some (.int .i64 ((rd_T42 l0_1 x28_2).f0)) ∧ w'.cell? ⟨gb146, 1, none⟩ = some (.int .i64 ((rd_T42 l0_1 x28_2).f1)) ∧ w'.cell? (ad147.add (((rd_T42 l0_1 x28_2).f1)).toNat) = some (.int .u64 (rd x144001_2 ((rd_T42 l0_1 x28_2).f1)))) (ds := [14]) #[false, false, false, false, false, false, false, false, false, false, false, false, false, false, false] (by kernel_rfl) rfl rfl ⟨(blk_cell BK143.out 0).trans rfl, (blk_cell BK143.out 1).trans rfl, (blk_cell BK143.out 2).trans rfl, (blk_cell BK146.out 0).trans rfl, (blk_cell BK146.out 1).trans rfl, hx147_0⟩ (fun hHeld => ?_); refine with_tabW network_New.tab10 network_New.bits10 (fun HT_ HW_ => ?_); generalize w47.drew = w48 at HO_144001 HO_144002 BK135 BK136 BK143 BK146 HB hx147_0 hHeld ⊢; refine zpu (i := 0) (n := 32) #[true, false, false, false, false, false, false, false, false, false, false, false, false, false, false] HT_ ?_; refine zpu (i := 2) (n := 34) #[true, false, true, false, false, false, false, false, false, false, false, false, false, false, false] HT_ ?_; refine zpu (i := 4) (n := 36) #[true, false, true, false, true, false, false, false, false, false, false, false, false, false, false] HT_ ?_; refine zpu (i := 6) (n := 38) #[true, false, true, false, true, false, true, false, false, false, false, false, false, false, false] HT_ ?_; refine zpu (i := 10) (n := 42) #[true, false, true, false, true, false, true, false, false, false, true, false, false, false, false] HT_ ?_; refine zt6 (i := 1) (n := 33) #[true, true, true, false, true, false, true, false, false, false, true, false, false, false, false] HT_ HW_ hHeld ?_; refine zt6 (i := 3) (n := 35) #[true, true, true, true, true, false, true, false, false, false, true, false, false, false, false] HT_ HW_ hHeld ?_; refine zt6 (i := 5) (n := 37) #[true, true, true, true, true, true, true, false, false, false, true, false, false, false, false] HT_ HW_ hHeld ?_; refine zt6 (i := 7) (n := 39) #[true, true, true, true, true, true, true, true, false, false, true, false, false, false, false] HT_ HW_ hHeld ?_; refine zpu (i := 8) (n := 40) #[true, true, true, true, true, true, true, true, true, false, true, false, false, false, false] HT_ ?_; refine zt6 (i := 9) (n := 41) #[true, true, true, true, true, true, true, true, true, true, true, false, false, false, false] HT_ HW_ hHeld ?_; refine zt6 (i := 11) (n := 43) #[true, true, true, true, true, true, true, true, true, true, true, true, false, false, false] HT_ HW_ hHeld ?_; refine one_ (i := 12) (N := some 44) #[true, true, true, true, true, true, true, true, true, true, true, true, true, false, false] rfl rfl (one_of HT_.out (by kernel_rfl)) (by decide) (fun K hK => ?_); refine goes_ Tryd.func51 (by kernel_rfl) rfl #[.int .u64 (rd x144001_2 ((rd_T42 l0_1 x28_2).f1)), .int .i64 ((rd_T42 l0_1 x28_2).f0)] (by rfl) rfl rfl (by (try simp only [List.map_toArray, List.map_cons, List.map_nil]); first | done | rfl | (simp only [List.length_drop, List.length_take]; rfl)) ?_; with_reducible refine (network_Set_With.calls (rd x144001_2 ((rd_T42 l0_1 x28_2).f1)) ((rd_T42 l0_1 x28_2).f0) t148 _ A36.out).mono ?_
                         rintro e w' ⟨rfl, ⟨nd, rfl⟩⟩; refine ⟨_, rfl, ?_⟩; have p37 : 0 ≤ (((rd_T42 l0_1 x28_2).f1) : Int) := of_decide_eq_true (by first | (with_reducible assumption) | assumption); have q37 : (((rd_T42 l0_1 x28_2).f1) : Int) < ((x144001_2.length : Int) : Int) := of_decide_eq_true (by first | (with_reducible assumption) | assumption); obtain ⟨go37, co37, eo37, gb37, gl37, cl37, HG37⟩ := Kd.R_form HO_144001.out (by omega); (first | cases eo37 | (injection eo37 with ea_ en_ ec_; (first | subst ea_ | (injection ea_ with ea_; subst ea_)); subst ec_; clear en_)); have GB37 := Aside0.mk gb37; have GG37 := Aside0.mk HG37; clear gb37 gl37 HG37; (first | simp only [add_plain] at hx147_0 | skip); obtain ⟨hx37_0, hf37_0⟩ := Kd.R_celln 0 HO_144001.out (((rd_T42 l0_1 x28_2).f1) : Int) p37 q37; replace p37 := eq_true p37; replace q37 := eq_true q37; have HP50 := Kd.R_putn HO_144001.out (((rd_T42 l0_1 x28_2).f1) : Int) t148; rw [← Ny149.out] at HP50; have HQ50 := Aside0.mk HP50; clear HP50; refine hK.out _ _ ⟨(blk_cell BK143.out 0).trans rfl, (blk_cell BK143.out 1).trans rfl, (blk_cell BK143.out 2).trans rfl, (blk_cell BK146.out 0).trans rfl, (blk_cell BK146.out 1).trans rfl, hHeld.2.2.2.2.2⟩ (fun hHeld => ?_); clear hK K; refine znn 44 ?_; refine zpu (i := 13) (n := 45) #[true, true, true, true, true, true, true, true, true, true, true, true, true, true, false] HT_ ?_; refine last_ (i := 14) (N := none) #[true, true, true, true, true, true, true, true, true, true, true, true, true, true, true] rfl rfl (one_of HT_.out (by kernel_rfl)) (by decide) (fun K hK => ?_); refine skip_ (w1 := ?_) (by rfl) rfl ?_ ?_; rotate_left; · go_simp; rfl
                         refine hK.out _ _ ?_; clear hK K; refine done_ (done_of HT_.out (by kernel_rfl)) ?_; try go_wp2
                         have n0_ : Aside0 (Kd.R (Kd.int .u64) 76 (w48.setCell ⟨go37, (((rd_T42 l0_1 x28_2).f1) : Int).toNat, none⟩ (.int .u64 t148)) w.heap.size (fun k_ => some k_ ≠ (u144002 : Value).ownBlock) (.slice (some ⟨go37, 0, none⟩) x144001_2.length co49) y149) := ⟨zR HQ50⟩; have n1_ : Aside0 (Kd.R (Kd.int .u64) 76 (w48.setCell ⟨go37, (((rd_T42 l0_1 x28_2).f1) : Int).toNat, none⟩ (.int .u64 t148)) w.heap.size (fun k_ => some k_ ≠ (.slice (some ⟨go37, 0, none⟩) x144001_2.length co49 : Value).ownBlock) u144002 x144002_2) := ⟨by refine zkR ?_; exact Kd.R_mono (Kd.R_far (p := ⟨go37, (((rd_T42 l0_1 x28_2).f1) : Int).toNat, none⟩) (Kd.R_mono HO_144002.out (fun k_ hk => (⟨hk, fun e_ => hk (by rw [e_]; rfl)⟩ : _ ∧ k_ ≠ go37))) (fun _ hk => hk.2) (.int .u64 t148)) (fun _ hk => hk.1)⟩; have n2_ : Aside0 ((w48.setCell ⟨go37, (((rd_T42 l0_1 x28_2).f1) : Int).toNat, none⟩ (.int .u64 t148)).heap[gb135]? = some (.cells #[.int .i64 a0_0, .slice (some ad145) l0_1.length c0_1] 24 (0, 0))) := ⟨by refine zk ?_; refine blk_far ?_ (by have h_ := Kd.R_ne HO_144001.out BK135.out (by decide); intro e_; exact h_ (by rw [e_]; rfl)) _; refine zk ?_; exact BK135.out⟩; have n3_ : Aside0 ((w48.setCell ⟨go37, (((rd_T42 l0_1 x28_2).f1) : Int).toNat, none⟩ (.int .u64 t148)).heap[gb136]? = some (.cells #[.int .u64 0, .slice none 0 0, .slice none 0 0] 80 (0, 0))) := ⟨by refine zk ?_; refine blk_far ?_ (by have h_ := Kd.R_ne HO_144001.out BK136.out (by decide); intro e_; exact h_ (by rw [e_]; rfl)) _; refine zk ?_; exact BK136.out⟩; have n4_ : Aside0 ((w48.setCell ⟨go37, (((rd_T42 l0_1 x28_2).f1) : Int).toNat, none⟩ (.int .u64 t148)).heap[gb143]? = some (.cells #[.int .u64 x144000_1, .slice (some ⟨go37, 0, none⟩) x144001_2.length co49, u144002] 80 (0, 0))) := ⟨by refine zk ?_; refine blk_far ?_ (by have h_ := Kd.R_ne HO_144001.out BK143.out (by decide); intro e_; exact h_ (by rw [e_]; rfl)) _; refine zk ?_; exact BK143.out⟩; have n5_ : Aside0 ((w48.setCell ⟨go37, (((rd_T42 l0_1 x28_2).f1) : Int).toNat, none⟩ (.int .u64 t148)).heap[gb146]? = some (.cells #[.int .i64 ((rd_T42 l0_1 x28_2).f0), .int .i64 ((rd_T42 l0_1 x28_2).f1)] 42 (0, 0))) := ⟨by refine zk ?_; refine blk_far ?_ (by have h_ := Kd.R_ne HO_144001.out BK146.out (by decide); intro e_; exact h_ (by rw [e_]; rfl)) _; refine zk ?_; exact BK146.out⟩; have n6_ : Aside0 (Below w.heap.size w (w48.setCell ⟨go37, (((rd_T42 l0_1 x28_2).f1) : Int).toNat, none⟩ (.int .u64 t148))) := ⟨zB HB⟩; (try clear HO_144001); (try clear HO_144002); (try clear BK135); (try clear BK136); (try clear BK143); (try clear BK146); (try clear HB); (try rw [show ∀ (W_ : World) (n_ : Nat) (a_ : Addr) (v_ : Value), (W_.drewN n_).setCell a_ v_ = (W_.setCell a_ v_).drewN n_ from fun _ _ _ _ => rfl]); generalize (w48.setCell ⟨go37, (((rd_T42 l0_1 x28_2).f1) : Int).toNat, none⟩ (.int .u64 t148)) = w51 at n0_ n1_ n2_ n3_ n4_ n5_ n6_ ⊢; have HO_144001 := n0_; have HO_144002 := n1_; have BK135 := n2_; have BK136 := n3_; have BK143 := n4_; have BK146 := n5_; have HB := n6_; clear n0_ n1_ n2_ n3_ n4_ n5_ n6_; (try (rw [drewN_self w51]; generalize hq_ : World.drewN w51 _ = w51; replace HO_144001 : Aside0 (Kd.R (Kd.int .u64) 76 w51 w.heap.size (fun k_ => some k_ ≠ (u144002 : Value).ownBlock) (.slice (some ⟨go37, 0, none⟩) x144001_2.length co49) y149) := ⟨by rw [← hq_]; exact (zR HO_144001)⟩; replace HO_144002 : Aside0 (Kd.R (Kd.int .u64) 76 w51 w.heap.size (fun k_ => some k_ ≠ (.slice (some ⟨go37, 0, none⟩) x144001_2.length co49 : Value).ownBlock) u144002 x144002_2) := ⟨by rw [← hq_]; exact (zR HO_144002)⟩; replace BK135 : Aside0 (w51.heap[gb135]? = some (.cells #[.int .i64 a0_0, .slice (some ad145) l0_1.length c0_1] 24 (0, 0))) := ⟨by rw [← hq_]; exact (zK BK135)⟩; replace BK136 : Aside0 (w51.heap[gb136]? = some (.cells #[.int .u64 0, .slice none 0 0, .slice none 0 0] 80 (0, 0))) := ⟨by rw [← hq_]; exact (zK BK136)⟩; replace BK143 : Aside0 (w51.heap[gb143]? = some (.cells #[.int .u64 x144000_1, .slice (some ⟨go37, 0, none⟩) x144001_2.length co49, u144002] 80 (0, 0))) := ⟨by rw [← hq_]; exact (zK BK143)⟩; replace BK146 : Aside0 (w51.heap[gb146]? = some (.cells #[.int .i64 ((rd_T42 l0_1 x28_2).f0), .int .i64 ((rd_T42 l0_1 x28_2).f1)] 42 (0, 0))) := ⟨by rw [← hq_]; exact (zK BK146)⟩; replace HB : Aside0 (Below w.heap.size w w51) := ⟨by rw [← hq_]; exact (zB HB)⟩; clear hq_)); replace HO_144001 := Aside0.mk (Kd.R_drew HO_144001.out); replace HO_144002 := Aside0.mk (Kd.R_drew HO_144002.out); replace BK135 := Aside0.mk (blk_drew BK135.out); replace BK136 := Aside0.mk (blk_drew BK136.out); replace BK143 := Aside0.mk (blk_drew BK143.out); replace BK146 := Aside0.mk (blk_drew BK146.out); replace HB := Aside0.mk (below_drew1 HB.out); obtain ⟨Ao53, co53, eo53⟩ := Kd.R_slice HO_144002.out; (first | subst eo53 | (injection eo53 with f1_ f2_ f3_; have f4_ := f1_.symm; have f5_ := f3_.symm; clear f1_ f2_ f3_; subst f4_; subst f5_)); have p150 : 0 ≤ (((rd_T42 l0_1 x28_2).f0) : Int) := of_decide_eq_true (by first | (with_reducible assumption) | assumption); have q150 : ((rd_T42 l0_1 x28_2).f0) < (x144002_2.length : Int) := of_decide_eq_true (by first | (with_reducible assumption) | assumption); obtain ⟨ad150, e150, hx150_0⟩ := Kd.at_int (Kd.R_reads' HO_144002.out).2.2 ((rd_T42 l0_1 x28_2).f0) p150 q150; cases e150; replace p150 := eq_true p150; replace q150 := eq_true q150; refine start_ (n := 15) (S := fun w' => w'.cell? ⟨gb143, 0, none⟩ = some (.int .u64 x144000_1) ∧ w'.cell? ⟨gb143, 1, none⟩ = some (.slice (some ⟨go37, 0, none⟩) x144001_2.length co49) ∧ w'.cell? ⟨gb143, 2, none⟩ = some (.slice (some ad150) x144002_2.length co53) ∧ w'.cell? ⟨gb146, 0, none⟩ = some (.int .i64 ((rd_T42 l0_1 x28_2).f0)) ∧ w'.cell? ⟨gb146, 1, none⟩ = some (.int .i64 ((rd_T42 l0_1 x28_2).f1)) ∧ w'.cell? (ad150.add (((rd_T42 l0_1 x28_2).f0)).toNat) = some (.int .u64 (rd x144002_2 ((rd_T42 l0_1 x28_2).f0)))) (ds := [14]) #[false, false, false, false, false, false, false, false, false, false, false, false, false, false, false] (by kernel_rfl) rfl rfl ⟨(blk_cell BK143.out 0).trans rfl, (blk_cell BK143.out 1).trans rfl, (blk_cell BK143.out 2).trans rfl, (blk_cell BK146.out 0).trans rfl, (blk_cell BK146.out 1).trans rfl, hx150_0⟩ (fun hHeld => ?_); refine with_tabW network_New.tab11 network_New.bits11 (fun HT_ HW_ => ?_); generalize w51.drew = w52 at HO_144001 HO_144002 BK135 BK136 BK143 BK146 HB HQ50 hx150_0 hHeld ⊢; refine zpu (i := 0) (n := 46) #[true, false, false, false, false, false, false, false, false, false, false, false, false, false, false] HT_ ?_; refine zpu (i := 2) (n := 48) #[true, false, true, false, false, false, false, false, false, false, false, false, false, false, false] HT_ ?_; refine zpu (i := 4) (n := 50) #[true, false, true, false, true, false, false, false, false, false, false, false, false, false, false] HT_ ?_; refine zpu (i := 6) (n := 52) #[true, false, true, false, true, false, true, false, false, false, false, false, false, false, false] HT_ ?_; refine zpu (i := 10) (n := 56) #[true, false, true, false, true, false, true, false, false, false, true, false, false, false, false] HT_ ?_; refine zt6 (i := 1) (n := 47) #[true, true, true, false, true, false, true, false, false, false, true, false, false, false, false] HT_ HW_ hHeld ?_; refine zt6 (i := 3) (n := 49) #[true, true, true, true, true, false, true, false, false, false, true, false, false, false, false] HT_ HW_ hHeld ?_; refine zt6 (i := 5) (n := 51) #[true, true, true, true, true, true, true, false, false, false, true, false, false, false, false] HT_ HW_ hHeld ?_; refine zt6 (i := 7) (n := 53) #[true, true, true, true, true, true, true, true, false, false, true, false, false, false, false] HT_ HW_ hHeld ?_; refine zpu (i := 8) (n := 54) #[true, true, true, true, true, true, true, true, true, false, true, false, false, false, false] HT_ ?_; refine zt6 (i := 9) (n := 55) #[true, true, true, true, true, true, true, true, true, true, true, false, false, false, false] HT_ HW_ hHeld ?_; refine zt6 (i := 11) (n := 57) #[true, true, true, true, true, true, true, true, true, true, true, true, false, false, false] HT_ HW_ hHeld ?_; refine one_ (i := 12) (N := some 58) #[true, true, true, true, true, true, true, true, true, true, true, true, true, false, false] rfl rfl (one_of HT_.out (by kernel_rfl)) (by decide) (fun K hK => ?_); refine goes_ Tryd.func51 (by kernel_rfl) rfl #[.int .u64 (rd x144002_2 ((rd_T42 l0_1 x28_2).f0)), .int .i64 ((rd_T42 l0_1 x28_2).f1)] (by rfl) rfl rfl (by (try simp only [List.map_toArray, List.map_cons, List.map_nil]); first | done | rfl | (simp only [List.length_drop, List.length_take]; rfl)) ?_; with_reducible refine (network_Set_With.calls (rd x144002_2 ((rd_T42 l0_1 x28_2).f0)) ((rd_T42 l0_1 x28_2).f1) t151 _ A40.out).mono ?_
                         rintro e w' ⟨rfl, ⟨nd, rfl⟩⟩; refine ⟨_, rfl, ?_⟩; have p41 : 0 ≤ (((rd_T42 l0_1 x28_2).f0) : Int) := of_decide_eq_true (by first | (with_reducible assumption) | assumption); have q41 : (((rd_T42 l0_1 x28_2).f0) : Int) < ((x144002_2.length : Int) : Int) := of_decide_eq_true (by first | (with_reducible assumption) | assumption); obtain ⟨go41, co41, eo41, gb41, gl41, cl41, HG41⟩ := Kd.R_form HO_144002.out (by omega); (first | cases eo41 | (injection eo41 with ea_ en_ ec_; (first | subst ea_ | (injection ea_ with ea_; subst ea_)); subst ec_; clear en_)); have GB41 := Aside0.mk gb41; have GG41 := Aside0.mk HG41; clear gb41 gl41 HG41; (first | simp only [add_plain] at hx150_0 | skip); obtain ⟨hx41_0, hf41_0⟩ := Kd.R_celln 0 HO_144002.out (((rd_T42 l0_1 x28_2).f0) : Int) p41 q41; replace p41 := eq_true p41; replace q41 := eq_true q41; have HP54 := Kd.R_putn HO_144002.out (((rd_T42 l0_1 x28_2).f0) : Int) t151; rw [← Ny152.out] at HP54; have HQ54 := Aside0.mk HP54; clear HP54; refine hK.out _ _ ⟨(blk_cell BK143.out 0).trans rfl, (blk_cell BK143.out 1).trans rfl, (blk_cell BK143.out 2).trans rfl, (blk_cell BK146.out 0).trans rfl, (blk_cell BK146.out 1).trans rfl, hHeld.2.2.2.2.2⟩ (fun hHeld => ?_); clear hK K; refine znn 58 ?_; refine zpu (i := 13) (n := 59) #[true, true, true, true, true, true, true, true, true, true, true, true, true, true, false] HT_ ?_; refine last_ (i := 14) (N := none) #[true, true, true, true, true, true, true, true, true, true, true, true, true, true, true] rfl rfl (one_of HT_.out (by kernel_rfl)) (by decide) (fun K hK => ?_); refine skip_ (w1 := ?_) (by rfl) rfl ?_ ?_; rotate_left; · go_simp; rfl
                         refine hK.out _ _ ?_; clear hK K; refine done_ (done_of HT_.out (by kernel_rfl)) ?_; try go_wp2
                         go_roundg k2
                         case measure => have := HK1.out; have := HK2.out; omega
                         case rel => exact ⟨(wrap64 (x28_2 + 1)), (y149), (y152), (.slice (some ⟨go37, 0, none⟩) x144001_2.length co49), (.slice (some ⟨go41, 0, none⟩) x144002_2.length co53), zv, H', ⟨by have := HK1.out; have := HK2.out; omega⟩, ⟨by refine zkR ?_; exact Kd.R_mono (Kd.R_far (p := ⟨go41, (((rd_T42 l0_1 x28_2).f0) : Int).toNat, none⟩) (Kd.R_mono HO_144001.out (fun k_ hk => (⟨hk, fun e_ => hk (by rw [e_]; rfl)⟩ : _ ∧ k_ ≠ go41))) (fun _ hk => hk.2) (.int .u64 t151)) (fun _ hk => hk.1)⟩, ⟨zR HQ54⟩, ⟨by refine zk ?_; refine blk_far ?_ (by have h_ := Kd.R_ne HO_144002.out BK135.out (by decide); intro e_; exact h_ (by rw [e_]; rfl)) _; refine zk ?_; exact BK135.out⟩, ⟨by refine zk ?_; refine blk_far ?_ (by have h_ := Kd.R_ne HO_144002.out BK136.out (by decide); intro e_; exact h_ (by rw [e_]; rfl)) _; refine zk ?_; exact BK136.out⟩, ⟨by refine zk ?_; refine blk_far ?_ (by have h_ := Kd.R_ne HO_144002.out BK143.out (by decide); intro e_; exact h_ (by rw [e_]; rfl)) _; refine zk ?_; exact BK143.out⟩, ⟨zB HB⟩⟩
                       · rw [if_neg c39] at H; exact absurd H (by simp)
                     · rw [if_neg c38] at H; exact absurd H (by simp)
                   · rw [if_neg c35] at H; exact absurd H (by simp)
                 · rw [if_neg c34] at H; exact absurd H (by simp)
               · rw [if_neg c33] at H; exact absurd H (by simp)
             · rw [if_neg c32] at H; exact absurd H (by simp)
           · rw [if_neg c31] at H; have c31b0 : decide (x28_2 < (l0_1.length : Int)) = false := decide_eq_false c31; clear c31; simp only [Option.some.injEq, Prod.mk.injEq] at H; obtain ⟨rfl, rfl, rfl⟩ := H; have hnb55 := NB143_135.out; have hnc55 := NB135_143.out; have hnb56 := NB143_136.out; have hnc56 := NB136_143.out; have hcz57_0 := zc BK143 0; have hcz57_1 := zc BK143 1; have hcz57_2 := zc BK143 2; have hfz57_0 := blk_frozen BK143.out 0; have hfz57_1 := blk_frozen BK143.out 1; have hfz57_2 := blk_frozen BK143.out 2; have hnb58 := NB136_135.out; have hnc58 := NB135_136.out; have hcz59_0 := zc BK136 0; have hcz59_1 := zc BK136 1; have hcz59_2 := zc BK136 2; have hfz59_0 := blk_frozen BK136.out 0; have hfz59_1 := blk_frozen BK136.out 1; have hfz59_2 := blk_frozen BK136.out 2; obtain ⟨Ao60, co60, eo60⟩ := Kd.R_slice HO_144001.out; subst eo60; obtain ⟨Ao61, co61, eo61⟩ := Kd.R_slice HO_144002.out; subst eo61; go_wp2; refine bodyPost_ret (results_cell_row rfl _ _ gb136 80 #[.int .u64 x144000_1, .slice Ao60 x144001_2.length co60, .slice Ao61 x144002_2.length co61] (0, 0) _ rfl (by refine zk ?_; refine blk_put (cs := #[.int .u64 x144000_1, .slice Ao60 x144001_2.length co60, .slice none 0 0]) ?_ 2 _ rfl; refine zk ?_; refine blk_put (cs := #[.int .u64 x144000_1, .slice none 0 0, .slice none 0 0]) ?_ 1 _ rfl; refine zk ?_; refine blk_put (cs := #[.int .u64 0, .slice none 0 0, .slice none 0 0]) ?_ 0 _ rfl; refine zk ?_; exact BK136.out) Tryd.underlying80 rfl (by kernel_rfl)) rfl ?_; exact ⟨_, _, by first | rfl | (simp [errW_none, errW_some] <;> rfl) | (simp [*, errW_none, errW_some] <;> rfl), by refine zkR ?_; exact Kd.R_mono (Kd.R_far (p := ⟨gb136, 2, none⟩) (Kd.R_far (p := ⟨gb136, 1, none⟩) (Kd.R_far (p := ⟨gb136, 0, none⟩) (Kd.R_types HO_144001.out BK136.out (by decide)) (fun _ hk => hk.2) (.int .u64 x144000_1)) (fun _ hk => hk.2) (.slice Ao60 x144001_2.length co60)) (fun _ hk => hk.2) (.slice Ao61 x144002_2.length co61)) (fun _ hk => hk.1), by refine zkR ?_; exact Kd.R_mono (Kd.R_far (p := ⟨gb136, 2, none⟩) (Kd.R_far (p := ⟨gb136, 1, none⟩) (Kd.R_far (p := ⟨gb136, 0, none⟩) (Kd.R_types HO_144002.out BK136.out (by decide)) (fun _ hk => hk.2) (.int .u64 x144000_1)) (fun _ hk => hk.2) (.slice Ao60 x144001_2.length co60)) (fun _ hk => hk.2) (.slice Ao61 x144002_2.length co61)) (fun _ hk => hk.1), zB HB⟩
   · rw [if_neg c3] at H; exact absurd H (by simp)
 · rw [if_neg c2] at H; exact absurd H (by simp)
end Go.Proofs.YtjmdlmogdbhdhaaDoor.P
namespace Go.Proofs.YtjmdlmogdbhdhaaDoor.P
open Go.RowKit Go.Proofs.YtjmdlmogdbhdhaaDoorW.PrintWords Go.Proofs.YtjmdlmogdbhdhaaDoorW.PrintLast Go.Proofs.YtjmdlmogdbhdhaaDoorW.PrintMore
attribute [local go_sem] max2_int min2_int max_two min_two max_three min_three max_four min_four
set_option linter.unusedVariables false
set_option linter.unusedSimpArgs false
def network_Net_Hit.l0 : Nat → Int → List Int → Int → Int → Int → List Int → List Int → Option (Int)
 | 0, _, _, _, _, _, _, _ => none
 | k + 1, x5, x9, x10, x11, x158000, x158001, x158002 => if x11 < x10 then (if 0 ≤ x11 then (if x11 < (x9.length : Int) then (if 0 ≤ (rd x9 x11) then (if (rd x9 x11) < (x158002.length : Int) then (network_Net_Hit.l0 k (Go.bits .or .u64 x5 (rd x158002 (rd x9 x11))) x9 x10 (wrap64 (x11 + 1)) x158000 x158001 x158002) else (none)) else (none)) else (none)) else (none)) else (some x5)
def network_Net_Hit.f (k : Nat) (a0_0 : Int) (l0_1 : List Int) (l0_2 : List Int) (a1 : Int) : Option (Int) := (network_Set_List.f k a1).bind fun t158 => (network_Net_Hit.l0 k 0 t158 (t158.length : Int) 0 a0_0 l0_1 l0_2)
set_option maxHeartbeats 8000000 in
set_option maxRecDepth 100000 in
theorem network_Net_Hit.calls (k : Nat) (a0_0 : Int) (A0_1 : Option Addr) (c0_1 : Nat) (l0_1 : List Int) (A0_2 : Option Addr) (c0_2 : Nat) (l0_2 : List Int) (a1 : Int) (r : Int) (w : World) (hr0_1 : Kd.C (Kd.int .u64) w A0_1 l0_1.length l0_1) (hc0_1 : l0_1.length ≤ c0_1) (hr0_2 : Kd.C (Kd.int .u64) w A0_2 l0_2.length l0_2) (hc0_2 : l0_2.length ≤ c0_2) (hT : TabT w) (h : network_Net_Hit.f k a0_0 l0_1 l0_2 a1 = some r) :
 Calls Tryd.prog 79 #[.agg #[.int .u64 a0_0, .slice A0_1 l0_1.length c0_1, .slice A0_2 l0_2.length c0_2], .int .u64 a1] w fun e w' => e = .returned (.int .u64 r) ∧ Below w.heap.size w w' := by
 have hu80 := Tryd.underlying80; have HR0_1 := Aside0.mk hr0_1; have HC0_1 := Aside0.mk hc0_1; clear hr0_1 hc0_1; have HR0_2 := Aside0.mk hr0_2; have HC0_2 := Aside0.mk hc0_2; clear hr0_2 hc0_2; have HTab := Aside0.mk hT; clear hT; have HB := Aside0.mk (Below.refl w.heap.size w); have H : ((network_Set_List.f k a1).bind fun t158 => (network_Net_Hit.l0 k 0 t158 (t158.length : Int) 0 a0_0 l0_1 l0_2)) = some r := h; clear h; replace H := Option.bind_eq_some_iff.mp H; obtain ⟨t158, A30, H⟩ := H; replace H : (network_Net_Hit.l0 k 0 t158 (t158.length : Int) 0 a0_0 l0_1 l0_2) = some r := H; have A3 := Aside0.mk A30; clear A30; have H' := Aside0.mk H; clear H; go_enter Tryd.func79, Tryd.ntmps79; go_wp2_with (first | ((with_reducible refine gate_dst (N := 2) rfl ?_); refine zX (N := 2) (cs := #[.int .u64 a0_0, .slice A0_1 l0_1.length c0_1, .slice A0_2 l0_2.length c0_2]) (t := 80) ?_; intro gb157 hg w4 hbox hb; have BK157 := Aside0.mk (hbox); have GW157 := Aside0.mk (zW hg HB); have GE157 := Aside0.mk (zW hg HB); replace HB := Aside0.mk (below_step (zB HB) hb); clear hb hbox hg) | ((with_reducible refine gate_callee (f := 50) rfl ?_); refine zG (some 9) rfl Tryd.func50 #[.int .u64 a1] ?_; (with_reducible refine (network_Set_List.calls k a1 t158 _ ?side1 A3.out).mono ?_); (case side1 => exact TabT.now HTab.out (zB HB)); rintro e w5 ⟨v159, rfl, ho0, hb⟩; refine ⟨_, rfl, ?_⟩; have HO160 := Aside0.mk (Kd.R_lower ho0 (below_size (zB HB))); replace BK157 := Aside0.mk (zKb BK157 hb); replace HB := Aside0.mk (below_step (zB HB) hb); (try clear hb); (try clear hb2); (try clear hk); (try clear hi); (try clear ho0); obtain ⟨Ao6, co6, eo6⟩ := Kd.R_slice HO160.out; subst eo6)); go_loopg [5, 11] k (fun kq v5 v11 w' => ∃ (x5_1 : Int) (x11_1 : Int), v5 = .int .u64 x5_1 ∧ v11 = .int .i64 x11_1 ∧ Aside0 (network_Net_Hit.l0 kq x5_1 t158 (t158.length : Int) x11_1 a0_0 l0_1 l0_2 = some r) ∧ Aside0 (kq ≤ k) ∧ Aside0 (Kd.R (Kd.int .i64) 3 w' w.heap.size (fun _ => True) (.slice Ao6 t158.length co6) t158) ∧ Aside0 (w'.heap[gb157]? = some (.cells #[.int .u64 a0_0, (.slice A0_1 l0_1.length c0_1), (.slice A0_2 l0_2.length c0_2)] 80 (0, 0))) ∧ Aside0 (Below w.heap.size w w'))
 case atStart => exact ⟨(0), (0), zv, zv, H', ⟨Nat.le_refl _⟩, ⟨zR HO160⟩, ⟨zK BK157⟩, ⟨zB HB⟩⟩
 case round =>
  clear H'; try clear p2
  try clear c5
  obtain ⟨x5_1, x11_1, rfl, rfl, HA, HK1, HO_9, BK157, HB⟩ := hrel; cases gk with
  | zero => exact absurd HA.out (by simp [network_Net_Hit.l0])
  | succ k1 =>
   have H := HA.out; clear HA; simp only [network_Net_Hit.l0] at H; by_cases c7 : x11_1 < (t158.length : Int)
   · rw [if_pos c7] at H; have c7b0 : decide (x11_1 < (t158.length : Int)) = true := decide_eq_true c7; clear c7; by_cases c8 : 0 ≤ x11_1
     · rw [if_pos c8] at H; have c8b0 : decide (0 ≤ x11_1) = true := decide_eq_true c8; clear c8; by_cases c9 : x11_1 < (t158.length : Int)
       · rw [if_pos c9] at H; have c9b0 : decide (x11_1 < (t158.length : Int)) = true := decide_eq_true c9; clear c9; by_cases c10 : 0 ≤ (rd t158 x11_1)
         · rw [if_pos c10] at H; have c10b0 : decide (0 ≤ (rd t158 x11_1)) = true := decide_eq_true c10; clear c10; by_cases c11 : (rd t158 x11_1) < (l0_2.length : Int)
           · rw [if_pos c11] at H; have c11b0 : decide ((rd t158 x11_1) < (l0_2.length : Int)) = true := decide_eq_true c11; clear c11; have H' := Aside0.mk H; clear H; have p161 : 0 ≤ (x11_1 : Int) := of_decide_eq_true (by first | (with_reducible assumption) | assumption); have q161 : x11_1 < (t158.length : Int) := of_decide_eq_true (by first | (with_reducible assumption) | assumption); obtain ⟨ad161, e161, hx161_0⟩ := Kd.at_int (Kd.R_reads' HO_9.out).2.2 x11_1 p161 q161; cases e161; replace p161 := eq_true p161; replace q161 := eq_true q161; have hcz12_0 := zc BK157 0; have hcz12_1 := zc BK157 1; have hcz12_2 := zc BK157 2; have hfz12_0 := blk_frozen BK157.out 0; have hfz12_1 := blk_frozen BK157.out 1; have hfz12_2 := blk_frozen BK157.out 2; have p162 : 0 ≤ ((rd t158 x11_1) : Int) := of_decide_eq_true (by first | (with_reducible assumption) | assumption); have q162 : (rd t158 x11_1) < (l0_2.length : Int) := of_decide_eq_true (by first | (with_reducible assumption) | assumption); obtain ⟨ad162, e162, hx162_0⟩ := Kd.at_int HR0_2.out (rd t158 x11_1) p162 q162; cases e162; replace hx162_0 := (HB.out.cell (World.block_lt_of_cell? w _ hx162_0)).trans hx162_0; replace p162 := eq_true p162; replace q162 := eq_true q162; go_wp2; go_roundg k1
             case measure => have := HK1.out; omega
             case rel => exact ⟨(Go.bits .or .u64 x5_1 (rd l0_2 (rd t158 x11_1))), (wrap64 (x11_1 + 1)), zv, zv, H', ⟨by have := HK1.out; omega⟩, ⟨zR HO_9⟩, ⟨zK BK157⟩, ⟨zB HB⟩⟩
           · rw [if_neg c11] at H; exact absurd H (by simp)
         · rw [if_neg c10] at H; exact absurd H (by simp)
       · rw [if_neg c9] at H; exact absurd H (by simp)
     · rw [if_neg c8] at H; exact absurd H (by simp)
   · rw [if_neg c7] at H; have c7b0 : decide (x11_1 < (t158.length : Int)) = false := decide_eq_false c7; clear c7; obtain rfl := Option.some.inj H; go_wp2; go_ret; exact ⟨by first | rfl | (simp [errW_none, errW_some] <;> rfl) | (simp [*, errW_none, errW_some] <;> rfl), zB HB⟩
end Go.Proofs.YtjmdlmogdbhdhaaDoor.P
namespace Go.Proofs.YtjmdlmogdbhdhaaDoor.P
open Go.RowKit Go.Proofs.YtjmdlmogdbhdhaaDoorW.PrintWords Go.Proofs.YtjmdlmogdbhdhaaDoorW.PrintLast Go.Proofs.YtjmdlmogdbhdhaaDoorW.PrintMore
attribute [local go_sem] max2_int min2_int max_two min_two max_three min_three max_four min_four
set_option linter.unusedVariables false
set_option linter.unusedSimpArgs false
def network_Net_Free.f (k : Nat) (a0_0 : Int) (l0_1 : List Int) (l0_2 : List Int) (a1 : Int) : Option (Bool) := (network_Net_Hit.f k a0_0 l0_1 l0_2 a1).bind fun t164 => (some ((Go.bits .and .u64 t164 a1) == 0))
set_option maxHeartbeats 8000000 in
set_option maxRecDepth 100000 in
theorem network_Net_Free.calls (k : Nat) (a0_0 : Int) (A0_1 : Option Addr) (c0_1 : Nat) (l0_1 : List Int) (A0_2 : Option Addr) (c0_2 : Nat) (l0_2 : List Int) (a1 : Int) (r : Bool) (w : World) (hr0_1 : Kd.C (Kd.int .u64) w A0_1 l0_1.length l0_1) (hc0_1 : l0_1.length ≤ c0_1) (hr0_2 : Kd.C (Kd.int .u64) w A0_2 l0_2.length l0_2) (hc0_2 : l0_2.length ≤ c0_2) (hT : TabT w) (h : network_Net_Free.f k a0_0 l0_1 l0_2 a1 = some r) :
 Calls Tryd.prog 83 #[.agg #[.int .u64 a0_0, .slice A0_1 l0_1.length c0_1, .slice A0_2 l0_2.length c0_2], .int .u64 a1] w fun e w' => e = .returned (.bool r) ∧ Below w.heap.size w w' := by
 have hu80 := Tryd.underlying80; have HR0_1 := Aside0.mk hr0_1; have HC0_1 := Aside0.mk hc0_1; clear hr0_1 hc0_1; have HR0_2 := Aside0.mk hr0_2; have HC0_2 := Aside0.mk hc0_2; clear hr0_2 hc0_2; have HTab := Aside0.mk hT; clear hT; have HB := Aside0.mk (Below.refl w.heap.size w); have H : ((network_Net_Hit.f k a0_0 l0_1 l0_2 a1).bind fun t164 => (some ((Go.bits .and .u64 t164 a1) == 0))) = some r := h; clear h; replace H := Option.bind_eq_some_iff.mp H; obtain ⟨t164, A30, H⟩ := H; replace H : (some ((Go.bits .and .u64 t164 a1) == 0)) = some r := H; have A3 := Aside0.mk A30; clear A30; obtain rfl := Option.some.inj H; go_enter Tryd.func83, Tryd.ntmps83; go_wp2_with (first | ((with_reducible refine gate_dst (N := 2) rfl ?_); refine zX (N := 2) (cs := #[.int .u64 a0_0, .slice A0_1 l0_1.length c0_1, .slice A0_2 l0_2.length c0_2]) (t := 80) ?_; intro gb163 hg w4 hbox hb; have BK163 := Aside0.mk (hbox); have GW163 := Aside0.mk (zW hg HB); have GE163 := Aside0.mk (zW hg HB); replace HB := Aside0.mk (below_step (zB HB) hb); clear hb hbox hg; have hcz5_0 := zc BK163 0; have hcz5_1 := zc BK163 1; have hcz5_2 := zc BK163 2; have hfz5_0 := blk_frozen BK163.out 0; have hfz5_1 := blk_frozen BK163.out 1; have hfz5_2 := blk_frozen BK163.out 2) | ((with_reducible refine gate_callee (f := 79) rfl ?_); refine zG (some 7) rfl Tryd.func79 #[.agg #[.int .u64 a0_0, .slice A0_1 l0_1.length c0_1, .slice A0_2 l0_2.length c0_2], .int .u64 a1] ?_; (with_reducible refine (network_Net_Hit.calls k a0_0 _ _ l0_1 _ _ l0_2 a1 t164 _ ?side1 ?side2 ?side3 ?side4 ?side5 A3.out).mono ?_); (case side1 => exact zCb HR0_1 HB); (case side2 => exact HC0_1.out); (case side3 => exact zCb HR0_2 HB); (case side4 => exact HC0_2.out); (case side5 => exact TabT.now HTab.out (zB HB)); rintro e w6 ⟨rfl, hb⟩; refine ⟨_, rfl, ?_⟩; replace BK163 := Aside0.mk (zKb BK163 hb); replace HB := Aside0.mk (below_step (zB HB) hb); (try clear hb); (try clear hb2); (try clear hk); (try clear hi))); go_ret; exact ⟨by first | rfl | (simp [errW_none, errW_some] <;> rfl) | (simp [*, errW_none, errW_some] <;> rfl), zB HB⟩
end Go.Proofs.YtjmdlmogdbhdhaaDoor.P
namespace Go.Proofs.YtjmdlmogdbhdhaaDoor.P
open Go.RowKit Go.Proofs.YtjmdlmogdbhdhaaDoorW.PrintWords Go.Proofs.YtjmdlmogdbhdhaaDoorW.PrintLast Go.Proofs.YtjmdlmogdbhdhaaDoorW.PrintMore
attribute [local go_sem] max2_int min2_int max_two min_two max_three min_three max_four min_four
set_option linter.unusedVariables false
set_option linter.unusedSimpArgs false
def network_Net_Stable.f (k : Nat) (a0_0 : Int) (l0_1 : List Int) (l0_2 : List Int) (a1 : Int) : Option (Bool) := (network_Net_Free.f k a0_0 l0_1 l0_2 a1).bind fun t166 => (if t166 = true then ((network_Net_Hit.f k a0_0 l0_1 l0_2 a1).bind fun t167 => (some ((Go.bits .andNot .u64 (Go.bits .andNot .u64 a0_0 a1) t167) == 0))) else (some false))
def network_Net_Stable.T1 : Bool × List (List Nat × List Nat) := (true, [([], []), ([], []), ([0, 1], [0, 1]), ([2, 2], [2]), ([3], [3]), ([4, 3], [3, 4]), ([3], [3]), ([5, 6, 3], [3, 5, 6]), ([3], [3]), ([3], [3]), ([8, 9, 3, 3], [3, 8, 9]), ([7, 10, 3], [3, 7, 10]), ([11, 3], [3, 11]), ([3, 12], [3, 12]), ([13, 10, 0, 1, 2, 3, 4, 5, 6, 7, 8, 9, 10, 11, 12, 13], [13])])
def network_Net_Stable.B1 : List Nat := [0, 0, 3, 7, 15, 31, 15, 127, 15, 15, 783, 2047, 4095, 8191, 16383]
theorem network_Net_Stable.tab1 : rtab .any (opsOf Tryd.f65 1) = network_Net_Stable.T1 := by kernel_rfl
theorem network_Net_Stable.bits1 : waitsOk network_Net_Stable.T1.2 network_Net_Stable.B1 = true := by kernel_rfl
set_option maxHeartbeats 8000000 in
set_option maxRecDepth 100000 in
theorem network_Net_Stable.calls (k : Nat) (a0_0 : Int) (A0_1 : Option Addr) (c0_1 : Nat) (l0_1 : List Int) (A0_2 : Option Addr) (c0_2 : Nat) (l0_2 : List Int) (a1 : Int) (r : Bool) (w : World) (hr0_1 : Kd.C (Kd.int .u64) w A0_1 l0_1.length l0_1) (hc0_1 : l0_1.length ≤ c0_1) (hr0_2 : Kd.C (Kd.int .u64) w A0_2 l0_2.length l0_2) (hc0_2 : l0_2.length ≤ c0_2) (hT : TabT w) (h : network_Net_Stable.f k a0_0 l0_1 l0_2 a1 = some r) :
 Calls Tryd.prog 65 #[.agg #[.int .u64 a0_0, .slice A0_1 l0_1.length c0_1, .slice A0_2 l0_2.length c0_2], .int .u64 a1] w fun e w' => e = .returned (.bool r) ∧ Below w.heap.size w w' := by
 have hu80 := Tryd.underlying80; have HR0_1 := Aside0.mk hr0_1; have HC0_1 := Aside0.mk hc0_1; clear hr0_1 hc0_1; have HR0_2 := Aside0.mk hr0_2; have HC0_2 := Aside0.mk hc0_2; clear hr0_2 hc0_2; have HTab := Aside0.mk hT; clear hT; have HB := Aside0.mk (Below.refl w.heap.size w); have H : ((network_Net_Free.f k a0_0 l0_1 l0_2 a1).bind fun t166 => (if t166 = true then ((network_Net_Hit.f k a0_0 l0_1 l0_2 a1).bind fun t167 => (some ((Go.bits .andNot .u64 (Go.bits .andNot .u64 a0_0 a1) t167) == 0))) else (some false))) = some r := h; clear h; replace H := Option.bind_eq_some_iff.mp H; obtain ⟨t166, A30, H⟩ := H; replace H : (if t166 = true then ((network_Net_Hit.f k a0_0 l0_1 l0_2 a1).bind fun t167 => (some ((Go.bits .andNot .u64 (Go.bits .andNot .u64 a0_0 a1) t167) == 0))) else (some false)) = some r := H; have A3 := Aside0.mk A30; clear A30; by_cases c4 : t166 = true
 · subst c4; have H1 : ((network_Net_Hit.f k a0_0 l0_1 l0_2 a1).bind fun t167 => (some ((Go.bits .andNot .u64 (Go.bits .andNot .u64 a0_0 a1) t167) == 0))) = some r := by rw [if_pos rfl] at H; exact H
   clear H; have H := H1; clear H1; replace H := Option.bind_eq_some_iff.mp H; obtain ⟨t167, A50, H⟩ := H; replace H : (some ((Go.bits .andNot .u64 (Go.bits .andNot .u64 a0_0 a1) t167) == 0)) = some r := H; have A5 := Aside0.mk A50; clear A50; obtain rfl := Option.some.inj H; go_enter Tryd.func65, Tryd.ntmps65; try go_wp2_with (first | ((with_reducible refine gate_dst (N := 2) rfl ?_); refine zX (N := 2) (cs := #[.int .u64 a0_0, .slice A0_1 l0_1.length c0_1, .slice A0_2 l0_2.length c0_2]) (t := 80) ?_; intro gb165 hg w6 hbox hb; have BK165 := Aside0.mk (hbox); have GW165 := Aside0.mk (zW hg HB); have GE165 := Aside0.mk (zW hg HB); replace HB := Aside0.mk (below_step (zB HB) hb); clear hb hbox hg))
   replace BK165 := Aside0.mk (blk_drew BK165.out); replace HB := Aside0.mk (below_drew1 HB.out); refine start_ (n := 15) (S := fun w' => w'.cell? ⟨gb165, 0, none⟩ = some (.int .u64 a0_0) ∧ w'.cell? ⟨gb165, 1, none⟩ = some (.slice A0_1 l0_1.length c0_1) ∧ w'.cell? ⟨gb165, 2, none⟩ = some (.slice A0_2 l0_2.length c0_2)) (ds := []) #[false, false, false, false, false, false, false, false, false, false, false, false, false, false, false] (by kernel_rfl) rfl rfl ⟨(blk_cell BK165.out 0).trans rfl, (blk_cell BK165.out 1).trans rfl, (blk_cell BK165.out 2).trans rfl⟩ (fun hHeld => ?_); refine with_tabW network_Net_Stable.tab1 network_Net_Stable.bits1 (fun HT_ HW_ => ?_); generalize w6.drew = w7 at BK165 HB hHeld ⊢; refine zpu (i := 1) (n := 6) #[false, true, false, false, false, false, false, false, false, false, false, false, false, false, false] HT_ ?_; refine zt3 (i := 0) (n := 5) #[true, true, false, false, false, false, false, false, false, false, false, false, false, false, false] HT_ HW_ hHeld ?_; refine one_ (i := 2) (N := some 7) #[true, true, true, false, false, false, false, false, false, false, false, false, false, false, false] rfl rfl (one_of HT_.out (by kernel_rfl)) (by decide) (fun K hK => ?_); refine goes_ Tryd.func83 (by kernel_rfl) rfl #[.agg #[.int .u64 a0_0, .slice A0_1 l0_1.length c0_1, .slice A0_2 l0_2.length c0_2], .int .u64 a1] (by rfl) rfl rfl (by (try simp only [List.map_toArray, List.map_cons, List.map_nil]); first | done | rfl | (simp only [List.length_drop, List.length_take]; rfl)) ?_; with_reducible refine (network_Net_Free.calls k a0_0 _ _ l0_1 _ _ l0_2 a1 true _ ?side1 ?side2 ?side3 ?side4 ?side5 A3.out).mono ?_
   (case side1 => exact zCb HR0_1 HB); (case side2 => exact HC0_1.out); (case side3 => exact zCb HR0_2 HB); (case side4 => exact HC0_2.out); (case side5 => exact TabT.now HTab.out (zB HB)); rintro e w8 ⟨rfl, hb⟩; refine ⟨_, rfl, ?_⟩; replace BK165 := Aside0.mk (zKb BK165 hb); replace HB := Aside0.mk (below_step (zB HB) hb); (try clear hb); (try clear hb2); (try clear hk); (try clear hi); refine hK.out _ _ ⟨(blk_cell BK165.out 0).trans rfl, (blk_cell BK165.out 1).trans rfl, (blk_cell BK165.out 2).trans rfl⟩ (fun hHeld => ?_); clear hK K; refine znn 7 ?_; refine zpu (i := 3) (n := 8) #[true, true, true, true, false, false, false, false, false, false, false, false, false, false, false] HT_ ?_; refine zpu (i := 4) (n := 9) #[true, true, true, true, true, false, false, false, false, false, false, false, false, false, false] HT_ ?_; refine zpu (i := 6) (n := 11) #[true, true, true, true, true, false, true, false, false, false, false, false, false, false, false] HT_ ?_; refine zpu (i := 9) (n := 14) #[true, true, true, true, true, false, true, false, false, true, false, false, false, false, false] HT_ ?_; refine zt3 (i := 5) (n := 10) #[true, true, true, true, true, true, true, false, false, true, false, false, false, false, false] HT_ HW_ hHeld ?_; refine zpu (i := 7) (n := 12) #[true, true, true, true, true, true, true, true, false, true, false, false, false, false, false] HT_ ?_; refine zt3 (i := 8) (n := 13) #[true, true, true, true, true, true, true, true, true, true, false, false, false, false, false] HT_ HW_ hHeld ?_; refine one_ (i := 10) (N := some 15) #[true, true, true, true, true, true, true, true, true, true, true, false, false, false, false] rfl rfl (one_of HT_.out (by kernel_rfl)) (by decide) (fun K hK => ?_); refine goes_ Tryd.func79 (by kernel_rfl) rfl #[.agg #[.int .u64 a0_0, .slice A0_1 l0_1.length c0_1, .slice A0_2 l0_2.length c0_2], .int .u64 a1] (by rfl) rfl rfl (by (try simp only [List.map_toArray, List.map_cons, List.map_nil]); first | done | rfl | (simp only [List.length_drop, List.length_take]; rfl)) ?_; with_reducible refine (network_Net_Hit.calls k a0_0 _ _ l0_1 _ _ l0_2 a1 t167 _ ?side1 ?side2 ?side3 ?side4 ?side5 A5.out).mono ?_
   (case side1 => exact zCb HR0_1 HB); (case side2 => exact HC0_1.out); (case side3 => exact zCb HR0_2 HB); (case side4 => exact HC0_2.out); (case side5 => exact TabT.now HTab.out (zB HB)); rintro e w9 ⟨rfl, hb⟩; refine ⟨_, rfl, ?_⟩; replace BK165 := Aside0.mk (zKb BK165 hb); replace HB := Aside0.mk (below_step (zB HB) hb); (try clear hb); (try clear hb2); (try clear hk); (try clear hi); refine hK.out _ _ ⟨(blk_cell BK165.out 0).trans rfl, (blk_cell BK165.out 1).trans rfl, (blk_cell BK165.out 2).trans rfl⟩ (fun hHeld => ?_); clear hK K; refine znn 15 ?_; refine zpu (i := 11) (n := 16) #[true, true, true, true, true, true, true, true, true, true, true, true, false, false, false] HT_ ?_; refine zpu (i := 12) (n := 17) #[true, true, true, true, true, true, true, true, true, true, true, true, true, false, false] HT_ ?_; refine zpu (i := 13) (n := 18) #[true, true, true, true, true, true, true, true, true, true, true, true, true, true, false] HT_ ?_; refine zpu (i := 14) (n := 4) #[true, true, true, true, true, true, true, true, true, true, true, true, true, true, true] HT_ ?_; refine done_ (done_of HT_.out (by kernel_rfl)) ?_; try go_wp2
   go_ret; exact ⟨by first | rfl | (simp [errW_none, errW_some] <;> rfl) | (simp [*, errW_none, errW_some] <;> rfl), zB HB⟩
 · replace c4 := Bool.eq_false_iff.mpr c4; subst c4; have H1 : (some false) = some r := by rw [if_neg (show ¬ (false = true) by decide)] at H; exact H
   clear H; have H := H1; clear H1; obtain rfl := Option.some.inj H; go_enter Tryd.func65, Tryd.ntmps65; try go_wp2_with (first | ((with_reducible refine gate_dst (N := 2) rfl ?_); refine zX (N := 2) (cs := #[.int .u64 a0_0, .slice A0_1 l0_1.length c0_1, .slice A0_2 l0_2.length c0_2]) (t := 80) ?_; intro gb165 hg w10 hbox hb; have BK165 := Aside0.mk (hbox); have GW165 := Aside0.mk (zW hg HB); have GE165 := Aside0.mk (zW hg HB); replace HB := Aside0.mk (below_step (zB HB) hb); clear hb hbox hg))
   replace BK165 := Aside0.mk (blk_drew BK165.out); replace HB := Aside0.mk (below_drew1 HB.out); refine start_ (n := 15) (S := fun w' => w'.cell? ⟨gb165, 0, none⟩ = some (.int .u64 a0_0) ∧ w'.cell? ⟨gb165, 1, none⟩ = some (.slice A0_1 l0_1.length c0_1) ∧ w'.cell? ⟨gb165, 2, none⟩ = some (.slice A0_2 l0_2.length c0_2)) (ds := []) #[false, false, false, false, false, false, false, false, false, false, false, false, false, false, false] (by kernel_rfl) rfl rfl ⟨(blk_cell BK165.out 0).trans rfl, (blk_cell BK165.out 1).trans rfl, (blk_cell BK165.out 2).trans rfl⟩ (fun hHeld => ?_); refine with_tabW network_Net_Stable.tab1 network_Net_Stable.bits1 (fun HT_ HW_ => ?_); generalize w10.drew = w11 at BK165 HB hHeld ⊢; refine zpu (i := 1) (n := 6) #[false, true, false, false, false, false, false, false, false, false, false, false, false, false, false] HT_ ?_; refine zt3 (i := 0) (n := 5) #[true, true, false, false, false, false, false, false, false, false, false, false, false, false, false] HT_ HW_ hHeld ?_; refine one_ (i := 2) (N := some 7) #[true, true, true, false, false, false, false, false, false, false, false, false, false, false, false] rfl rfl (one_of HT_.out (by kernel_rfl)) (by decide) (fun K hK => ?_); refine goes_ Tryd.func83 (by kernel_rfl) rfl #[.agg #[.int .u64 a0_0, .slice A0_1 l0_1.length c0_1, .slice A0_2 l0_2.length c0_2], .int .u64 a1] (by rfl) rfl rfl (by (try simp only [List.map_toArray, List.map_cons, List.map_nil]); first | done | rfl | (simp only [List.length_drop, List.length_take]; rfl)) ?_; with_reducible refine (network_Net_Free.calls k a0_0 _ _ l0_1 _ _ l0_2 a1 false _ ?side1 ?side2 ?side3 ?side4 ?side5 A3.out).mono ?_
   (case side1 => exact zCb HR0_1 HB); (case side2 => exact HC0_1.out); (case side3 => exact zCb HR0_2 HB); (case side4 => exact HC0_2.out); (case side5 => exact TabT.now HTab.out (zB HB)); rintro e w12 ⟨rfl, hb⟩; refine ⟨_, rfl, ?_⟩; replace BK165 := Aside0.mk (zKb BK165 hb); replace HB := Aside0.mk (below_step (zB HB) hb); (try clear hb); (try clear hb2); (try clear hk); (try clear hi); refine hK.out _ _ ⟨(blk_cell BK165.out 0).trans rfl, (blk_cell BK165.out 1).trans rfl, (blk_cell BK165.out 2).trans rfl⟩ (fun hHeld => ?_); clear hK K; refine znn 7 ?_; refine zpu (i := 3) (n := 8) #[true, true, true, true, false, false, false, false, false, false, false, false, false, false, false] HT_ ?_; refine zpn (i := 4) (n := 9) #[true, true, true, true, true, false, false, false, false, false, false, false, false, false, false] HT_ ?_; refine zpn (i := 5) (n := 10) #[true, true, true, true, true, true, false, false, false, false, false, false, false, false, false] HT_ ?_; refine zpn (i := 6) (n := 11) #[true, true, true, true, true, true, true, false, false, false, false, false, false, false, false] HT_ ?_; refine zpn (i := 7) (n := 12) #[true, true, true, true, true, true, true, true, false, false, false, false, false, false, false] HT_ ?_; refine zpn (i := 8) (n := 13) #[true, true, true, true, true, true, true, true, true, false, false, false, false, false, false] HT_ ?_; refine zpn (i := 9) (n := 14) #[true, true, true, true, true, true, true, true, true, true, false, false, false, false, false] HT_ ?_; refine zpn (i := 10) (n := 15) #[true, true, true, true, true, true, true, true, true, true, true, false, false, false, false] HT_ ?_; refine zpn (i := 11) (n := 16) #[true, true, true, true, true, true, true, true, true, true, true, true, false, false, false] HT_ ?_; refine zpn (i := 12) (n := 17) #[true, true, true, true, true, true, true, true, true, true, true, true, true, false, false] HT_ ?_; refine zpu (i := 13) (n := 18) #[true, true, true, true, true, true, true, true, true, true, true, true, true, true, false] HT_ ?_; refine zpu (i := 14) (n := 4) #[true, true, true, true, true, true, true, true, true, true, true, true, true, true, true] HT_ ?_; refine done_ (done_of HT_.out (by kernel_rfl)) ?_; try go_wp2
   go_ret; exact ⟨by first | rfl | (simp [errW_none, errW_some] <;> rfl) | (simp [*, errW_none, errW_some] <;> rfl), zB HB⟩
end Go.Proofs.YtjmdlmogdbhdhaaDoor.P
namespace Go.Proofs.YtjmdlmogdbhdhaaDoor.P
open Go.RowKit Go.Proofs.YtjmdlmogdbhdhaaDoorW.PrintWords Go.Proofs.YtjmdlmogdbhdhaaDoorW.PrintLast Go.Proofs.YtjmdlmogdbhdhaaDoorW.PrintMore
attribute [local go_sem] max2_int min2_int max_two min_two max_three min_three max_four min_four
set_option linter.unusedVariables false
set_option linter.unusedSimpArgs false
def network_Net_Attackers.l0 : Nat → Int → List Int → Int → Int → Int → List Int → List Int → Option (Int)
 | 0, _, _, _, _, _, _, _ => none
 | k + 1, x5, x9, x10, x11, x169000, x169001, x169002 => if x11 < x10 then (if 0 ≤ x11 then (if x11 < (x9.length : Int) then (if 0 ≤ (rd x9 x11) then (if (rd x9 x11) < (x169001.length : Int) then (network_Net_Attackers.l0 k (Go.bits .or .u64 x5 (rd x169001 (rd x9 x11))) x9 x10 (wrap64 (x11 + 1)) x169000 x169001 x169002) else (none)) else (none)) else (none)) else (none)) else (some x5)
def network_Net_Attackers.f (k : Nat) (a0_0 : Int) (l0_1 : List Int) (l0_2 : List Int) (a1 : Int) : Option (Int) := (network_Set_List.f k a1).bind fun t169 => (network_Net_Attackers.l0 k 0 t169 (t169.length : Int) 0 a0_0 l0_1 l0_2)
set_option maxHeartbeats 8000000 in
set_option maxRecDepth 100000 in
theorem network_Net_Attackers.calls (k : Nat) (a0_0 : Int) (A0_1 : Option Addr) (c0_1 : Nat) (l0_1 : List Int) (A0_2 : Option Addr) (c0_2 : Nat) (l0_2 : List Int) (a1 : Int) (r : Int) (w : World) (hr0_1 : Kd.C (Kd.int .u64) w A0_1 l0_1.length l0_1) (hc0_1 : l0_1.length ≤ c0_1) (hr0_2 : Kd.C (Kd.int .u64) w A0_2 l0_2.length l0_2) (hc0_2 : l0_2.length ≤ c0_2) (hT : TabT w) (h : network_Net_Attackers.f k a0_0 l0_1 l0_2 a1 = some r) :
 Calls Tryd.prog 84 #[.agg #[.int .u64 a0_0, .slice A0_1 l0_1.length c0_1, .slice A0_2 l0_2.length c0_2], .int .u64 a1] w fun e w' => e = .returned (.int .u64 r) ∧ Below w.heap.size w w' := by
 have hu80 := Tryd.underlying80; have HR0_1 := Aside0.mk hr0_1; have HC0_1 := Aside0.mk hc0_1; clear hr0_1 hc0_1; have HR0_2 := Aside0.mk hr0_2; have HC0_2 := Aside0.mk hc0_2; clear hr0_2 hc0_2; have HTab := Aside0.mk hT; clear hT; have HB := Aside0.mk (Below.refl w.heap.size w); have H : ((network_Set_List.f k a1).bind fun t169 => (network_Net_Attackers.l0 k 0 t169 (t169.length : Int) 0 a0_0 l0_1 l0_2)) = some r := h; clear h; replace H := Option.bind_eq_some_iff.mp H; obtain ⟨t169, A30, H⟩ := H; replace H : (network_Net_Attackers.l0 k 0 t169 (t169.length : Int) 0 a0_0 l0_1 l0_2) = some r := H; have A3 := Aside0.mk A30; clear A30; have H' := Aside0.mk H; clear H; go_enter Tryd.func84, Tryd.ntmps84; go_wp2_with (first | ((with_reducible refine gate_dst (N := 2) rfl ?_); refine zX (N := 2) (cs := #[.int .u64 a0_0, .slice A0_1 l0_1.length c0_1, .slice A0_2 l0_2.length c0_2]) (t := 80) ?_; intro gb168 hg w4 hbox hb; have BK168 := Aside0.mk (hbox); have GW168 := Aside0.mk (zW hg HB); have GE168 := Aside0.mk (zW hg HB); replace HB := Aside0.mk (below_step (zB HB) hb); clear hb hbox hg) | ((with_reducible refine gate_callee (f := 50) rfl ?_); refine zG (some 9) rfl Tryd.func50 #[.int .u64 a1] ?_; (with_reducible refine (network_Set_List.calls k a1 t169 _ ?side1 A3.out).mono ?_); (case side1 => exact TabT.now HTab.out (zB HB)); rintro e w5 ⟨v170, rfl, ho0, hb⟩; refine ⟨_, rfl, ?_⟩; have HO171 := Aside0.mk (Kd.R_lower ho0 (below_size (zB HB))); replace BK168 := Aside0.mk (zKb BK168 hb); replace HB := Aside0.mk (below_step (zB HB) hb); (try clear hb); (try clear hb2); (try clear hk); (try clear hi); (try clear ho0); obtain ⟨Ao6, co6, eo6⟩ := Kd.R_slice HO171.out; subst eo6)); go_loopg [5, 11] k (fun kq v5 v11 w' => ∃ (x5_1 : Int) (x11_1 : Int), v5 = .int .u64 x5_1 ∧ v11 = .int .i64 x11_1 ∧ Aside0 (network_Net_Attackers.l0 kq x5_1 t169 (t169.length : Int) x11_1 a0_0 l0_1 l0_2 = some r) ∧ Aside0 (kq ≤ k) ∧ Aside0 (Kd.R (Kd.int .i64) 3 w' w.heap.size (fun _ => True) (.slice Ao6 t169.length co6) t169) ∧ Aside0 (w'.heap[gb168]? = some (.cells #[.int .u64 a0_0, (.slice A0_1 l0_1.length c0_1), (.slice A0_2 l0_2.length c0_2)] 80 (0, 0))) ∧ Aside0 (Below w.heap.size w w'))
 case atStart => exact ⟨(0), (0), zv, zv, H', ⟨Nat.le_refl _⟩, ⟨zR HO171⟩, ⟨zK BK168⟩, ⟨zB HB⟩⟩
 case round =>
  clear H'; try clear p2
  try clear c5
  obtain ⟨x5_1, x11_1, rfl, rfl, HA, HK1, HO_9, BK168, HB⟩ := hrel; cases gk with
  | zero => exact absurd HA.out (by simp [network_Net_Attackers.l0])
  | succ k1 =>
   have H := HA.out; clear HA; simp only [network_Net_Attackers.l0] at H; by_cases c7 : x11_1 < (t169.length : Int)
   · rw [if_pos c7] at H; have c7b0 : decide (x11_1 < (t169.length : Int)) = true := decide_eq_true c7; clear c7; by_cases c8 : 0 ≤ x11_1
     · rw [if_pos c8] at H; have c8b0 : decide (0 ≤ x11_1) = true := decide_eq_true c8; clear c8; by_cases c9 : x11_1 < (t169.length : Int)
       · rw [if_pos c9] at H; have c9b0 : decide (x11_1 < (t169.length : Int)) = true := decide_eq_true c9; clear c9; by_cases c10 : 0 ≤ (rd t169 x11_1)
         · rw [if_pos c10] at H; have c10b0 : decide (0 ≤ (rd t169 x11_1)) = true := decide_eq_true c10; clear c10; by_cases c11 : (rd t169 x11_1) < (l0_1.length : Int)
           · rw [if_pos c11] at H; have c11b0 : decide ((rd t169 x11_1) < (l0_1.length : Int)) = true := decide_eq_true c11; clear c11; have H' := Aside0.mk H; clear H; have p172 : 0 ≤ (x11_1 : Int) := of_decide_eq_true (by first | (with_reducible assumption) | assumption); have q172 : x11_1 < (t169.length : Int) := of_decide_eq_true (by first | (with_reducible assumption) | assumption); obtain ⟨ad172, e172, hx172_0⟩ := Kd.at_int (Kd.R_reads' HO_9.out).2.2 x11_1 p172 q172; cases e172; replace p172 := eq_true p172; replace q172 := eq_true q172; have hcz12_0 := zc BK168 0; have hcz12_1 := zc BK168 1; have hcz12_2 := zc BK168 2; have hfz12_0 := blk_frozen BK168.out 0; have hfz12_1 := blk_frozen BK168.out 1; have hfz12_2 := blk_frozen BK168.out 2; have p173 : 0 ≤ ((rd t169 x11_1) : Int) := of_decide_eq_true (by first | (with_reducible assumption) | assumption); have q173 : (rd t169 x11_1) < (l0_1.length : Int) := of_decide_eq_true (by first | (with_reducible assumption) | assumption); obtain ⟨ad173, e173, hx173_0⟩ := Kd.at_int HR0_1.out (rd t169 x11_1) p173 q173; cases e173; replace hx173_0 := (HB.out.cell (World.block_lt_of_cell? w _ hx173_0)).trans hx173_0; replace p173 := eq_true p173; replace q173 := eq_true q173; go_wp2; go_roundg k1
             case measure => have := HK1.out; omega
             case rel => exact ⟨(Go.bits .or .u64 x5_1 (rd l0_1 (rd t169 x11_1))), (wrap64 (x11_1 + 1)), zv, zv, H', ⟨by have := HK1.out; omega⟩, ⟨zR HO_9⟩, ⟨zK BK168⟩, ⟨zB HB⟩⟩
           · rw [if_neg c11] at H; exact absurd H (by simp)
         · rw [if_neg c10] at H; exact absurd H (by simp)
       · rw [if_neg c9] at H; exact absurd H (by simp)
     · rw [if_neg c8] at H; exact absurd H (by simp)
   · rw [if_neg c7] at H; have c7b0 : decide (x11_1 < (t169.length : Int)) = false := decide_eq_false c7; clear c7; obtain rfl := Option.some.inj H; go_wp2; go_ret; exact ⟨by first | rfl | (simp [errW_none, errW_some] <;> rfl) | (simp [*, errW_none, errW_some] <;> rfl), zB HB⟩
end Go.Proofs.YtjmdlmogdbhdhaaDoor.P
namespace Go.Proofs.YtjmdlmogdbhdhaaDoor.P
open Go.RowKit Go.Proofs.YtjmdlmogdbhdhaaDoorW.PrintWords Go.Proofs.YtjmdlmogdbhdhaaDoorW.PrintLast Go.Proofs.YtjmdlmogdbhdhaaDoorW.PrintMore
attribute [local go_sem] max2_int min2_int max_two min_two max_three min_three max_four min_four
set_option linter.unusedVariables false
set_option linter.unusedSimpArgs false
def network_Net_Admissible.f (k : Nat) (a0_0 : Int) (l0_1 : List Int) (l0_2 : List Int) (a1 : Int) : Option (Bool) := (network_Net_Free.f k a0_0 l0_1 l0_2 a1).bind fun t175 => (if t175 = true then ((network_Net_Attackers.f k a0_0 l0_1 l0_2 a1).bind fun t176 => ((network_Net_Hit.f k a0_0 l0_1 l0_2 a1).bind fun t177 => (some ((Go.bits .andNot .u64 t176 t177) == 0)))) else (some false))
def network_Net_Admissible.T1 : Bool × List (List Nat × List Nat) := (true, [([], []), ([], []), ([0, 1], [0, 1]), ([2, 2], [2]), ([3], [3]), ([3], [3]), ([4, 5, 3, 3], [3, 4, 5]), ([3], [3]), ([3], [3]), ([7, 8, 6, 3], [3, 7, 8]), ([6, 9, 3], [3, 6, 9]), ([10, 3], [3, 10]), ([3, 11], [3, 11]), ([12, 9, 0, 1, 2, 3, 4, 5, 6, 7, 8, 9, 10, 11, 12], [12])])
def network_Net_Admissible.B1 : List Nat := [0, 0, 3, 7, 15, 15, 63, 15, 15, 511, 1023, 2047, 4095, 8191]
theorem network_Net_Admissible.tab1 : rtab .any (opsOf Tryd.f66 1) = network_Net_Admissible.T1 := by kernel_rfl
theorem network_Net_Admissible.bits1 : waitsOk network_Net_Admissible.T1.2 network_Net_Admissible.B1 = true := by kernel_rfl
set_option maxHeartbeats 8000000 in
set_option maxRecDepth 100000 in
theorem network_Net_Admissible.calls (k : Nat) (a0_0 : Int) (A0_1 : Option Addr) (c0_1 : Nat) (l0_1 : List Int) (A0_2 : Option Addr) (c0_2 : Nat) (l0_2 : List Int) (a1 : Int) (r : Bool) (w : World) (hr0_1 : Kd.C (Kd.int .u64) w A0_1 l0_1.length l0_1) (hc0_1 : l0_1.length ≤ c0_1) (hr0_2 : Kd.C (Kd.int .u64) w A0_2 l0_2.length l0_2) (hc0_2 : l0_2.length ≤ c0_2) (hT : TabT w) (h : network_Net_Admissible.f k a0_0 l0_1 l0_2 a1 = some r) :
 Calls Tryd.prog 66 #[.agg #[.int .u64 a0_0, .slice A0_1 l0_1.length c0_1, .slice A0_2 l0_2.length c0_2], .int .u64 a1] w fun e w' => e = .returned (.bool r) ∧ Below w.heap.size w w' := by
 have hu80 := Tryd.underlying80; have HR0_1 := Aside0.mk hr0_1; have HC0_1 := Aside0.mk hc0_1; clear hr0_1 hc0_1; have HR0_2 := Aside0.mk hr0_2; have HC0_2 := Aside0.mk hc0_2; clear hr0_2 hc0_2; have HTab := Aside0.mk hT; clear hT; have HB := Aside0.mk (Below.refl w.heap.size w); have H : ((network_Net_Free.f k a0_0 l0_1 l0_2 a1).bind fun t175 => (if t175 = true then ((network_Net_Attackers.f k a0_0 l0_1 l0_2 a1).bind fun t176 => ((network_Net_Hit.f k a0_0 l0_1 l0_2 a1).bind fun t177 => (some ((Go.bits .andNot .u64 t176 t177) == 0)))) else (some false))) = some r := h; clear h; replace H := Option.bind_eq_some_iff.mp H; obtain ⟨t175, A30, H⟩ := H; replace H : (if t175 = true then ((network_Net_Attackers.f k a0_0 l0_1 l0_2 a1).bind fun t176 => ((network_Net_Hit.f k a0_0 l0_1 l0_2 a1).bind fun t177 => (some ((Go.bits .andNot .u64 t176 t177) == 0)))) else (some false)) = some r := H; have A3 := Aside0.mk A30; clear A30; by_cases c4 : t175 = true
 · subst c4; have H1 : ((network_Net_Attackers.f k a0_0 l0_1 l0_2 a1).bind fun t176 => ((network_Net_Hit.f k a0_0 l0_1 l0_2 a1).bind fun t177 => (some ((Go.bits .andNot .u64 t176 t177) == 0)))) = some r := by rw [if_pos rfl] at H; exact H
   clear H; have H := H1; clear H1; replace H := Option.bind_eq_some_iff.mp H; obtain ⟨t176, A50, H⟩ := H; replace H : ((network_Net_Hit.f k a0_0 l0_1 l0_2 a1).bind fun t177 => (some ((Go.bits .andNot .u64 t176 t177) == 0))) = some r := H; have A5 := Aside0.mk A50; clear A50; replace H := Option.bind_eq_some_iff.mp H; obtain ⟨t177, A60, H⟩ := H; replace H : (some ((Go.bits .andNot .u64 t176 t177) == 0)) = some r := H; have A6 := Aside0.mk A60; clear A60; obtain rfl := Option.some.inj H; go_enter Tryd.func66, Tryd.ntmps66; try go_wp2_with (first | ((with_reducible refine gate_dst (N := 2) rfl ?_); refine zX (N := 2) (cs := #[.int .u64 a0_0, .slice A0_1 l0_1.length c0_1, .slice A0_2 l0_2.length c0_2]) (t := 80) ?_; intro gb174 hg w7 hbox hb; have BK174 := Aside0.mk (hbox); have GW174 := Aside0.mk (zW hg HB); have GE174 := Aside0.mk (zW hg HB); replace HB := Aside0.mk (below_step (zB HB) hb); clear hb hbox hg))
   replace BK174 := Aside0.mk (blk_drew BK174.out); replace HB := Aside0.mk (below_drew1 HB.out); refine start_ (n := 14) (S := fun w' => w'.cell? ⟨gb174, 0, none⟩ = some (.int .u64 a0_0) ∧ w'.cell? ⟨gb174, 1, none⟩ = some (.slice A0_1 l0_1.length c0_1) ∧ w'.cell? ⟨gb174, 2, none⟩ = some (.slice A0_2 l0_2.length c0_2)) (ds := []) #[false, false, false, false, false, false, false, false, false, false, false, false, false, false] (by kernel_rfl) rfl rfl ⟨(blk_cell BK174.out 0).trans rfl, (blk_cell BK174.out 1).trans rfl, (blk_cell BK174.out 2).trans rfl⟩ (fun hHeld => ?_); refine with_tabW network_Net_Admissible.tab1 network_Net_Admissible.bits1 (fun HT_ HW_ => ?_); generalize w7.drew = w8 at BK174 HB hHeld ⊢; refine zpu (i := 1) (n := 6) #[false, true, false, false, false, false, false, false, false, false, false, false, false, false] HT_ ?_; refine zt3 (i := 0) (n := 5) #[true, true, false, false, false, false, false, false, false, false, false, false, false, false] HT_ HW_ hHeld ?_; refine one_ (i := 2) (N := some 7) #[true, true, true, false, false, false, false, false, false, false, false, false, false, false] rfl rfl (one_of HT_.out (by kernel_rfl)) (by decide) (fun K hK => ?_); refine goes_ Tryd.func83 (by kernel_rfl) rfl #[.agg #[.int .u64 a0_0, .slice A0_1 l0_1.length c0_1, .slice A0_2 l0_2.length c0_2], .int .u64 a1] (by rfl) rfl rfl (by (try simp only [List.map_toArray, List.map_cons, List.map_nil]); first | done | rfl | (simp only [List.length_drop, List.length_take]; rfl)) ?_; with_reducible refine (network_Net_Free.calls k a0_0 _ _ l0_1 _ _ l0_2 a1 true _ ?side1 ?side2 ?side3 ?side4 ?side5 A3.out).mono ?_
   (case side1 => exact zCb HR0_1 HB); (case side2 => exact HC0_1.out); (case side3 => exact zCb HR0_2 HB); (case side4 => exact HC0_2.out); (case side5 => exact TabT.now HTab.out (zB HB)); rintro e w9 ⟨rfl, hb⟩; refine ⟨_, rfl, ?_⟩; replace BK174 := Aside0.mk (zKb BK174 hb); replace HB := Aside0.mk (below_step (zB HB) hb); (try clear hb); (try clear hb2); (try clear hk); (try clear hi); refine hK.out _ _ ⟨(blk_cell BK174.out 0).trans rfl, (blk_cell BK174.out 1).trans rfl, (blk_cell BK174.out 2).trans rfl⟩ (fun hHeld => ?_); clear hK K; refine znn 7 ?_; refine zpu (i := 3) (n := 8) #[true, true, true, true, false, false, false, false, false, false, false, false, false, false] HT_ ?_; refine zpu (i := 5) (n := 10) #[true, true, true, true, false, true, false, false, false, false, false, false, false, false] HT_ ?_; refine zpu (i := 8) (n := 13) #[true, true, true, true, false, true, false, false, true, false, false, false, false, false] HT_ ?_; refine zt3 (i := 4) (n := 9) #[true, true, true, true, true, true, false, false, true, false, false, false, false, false] HT_ HW_ hHeld ?_; refine zt3 (i := 7) (n := 12) #[true, true, true, true, true, true, false, true, true, false, false, false, false, false] HT_ HW_ hHeld ?_; refine one_ (i := 6) (N := some 11) #[true, true, true, true, true, true, true, true, true, false, false, false, false, false] rfl rfl (one_of HT_.out (by kernel_rfl)) (by decide) (fun K hK => ?_); refine goes_ Tryd.func84 (by kernel_rfl) rfl #[.agg #[.int .u64 a0_0, .slice A0_1 l0_1.length c0_1, .slice A0_2 l0_2.length c0_2], .int .u64 a1] (by rfl) rfl rfl (by (try simp only [List.map_toArray, List.map_cons, List.map_nil]); first | done | rfl | (simp only [List.length_drop, List.length_take]; rfl)) ?_; with_reducible refine (network_Net_Attackers.calls k a0_0 _ _ l0_1 _ _ l0_2 a1 t176 _ ?side1 ?side2 ?side3 ?side4 ?side5 A5.out).mono ?_
   (case side1 => exact zCb HR0_1 HB); (case side2 => exact HC0_1.out); (case side3 => exact zCb HR0_2 HB); (case side4 => exact HC0_2.out); (case side5 => exact TabT.now HTab.out (zB HB)); rintro e w10 ⟨rfl, hb⟩; refine ⟨_, rfl, ?_⟩; replace BK174 := Aside0.mk (zKb BK174 hb); replace HB := Aside0.mk (below_step (zB HB) hb); (try clear hb); (try clear hb2); (try clear hk); (try clear hi); refine hK.out _ _ ⟨(blk_cell BK174.out 0).trans rfl, (blk_cell BK174.out 1).trans rfl, (blk_cell BK174.out 2).trans rfl⟩ (fun hHeld => ?_); clear hK K; refine znn 11 ?_; refine one_ (i := 9) (N := some 14) #[true, true, true, true, true, true, true, true, true, true, false, false, false, false] rfl rfl (one_of HT_.out (by kernel_rfl)) (by decide) (fun K hK => ?_); refine goes_ Tryd.func79 (by kernel_rfl) rfl #[.agg #[.int .u64 a0_0, .slice A0_1 l0_1.length c0_1, .slice A0_2 l0_2.length c0_2], .int .u64 a1] (by rfl) rfl rfl (by (try simp only [List.map_toArray, List.map_cons, List.map_nil]); first | done | rfl | (simp only [List.length_drop, List.length_take]; rfl)) ?_; with_reducible refine (network_Net_Hit.calls k a0_0 _ _ l0_1 _ _ l0_2 a1 t177 _ ?side1 ?side2 ?side3 ?side4 ?side5 A6.out).mono ?_
   (case side1 => exact zCb HR0_1 HB); (case side2 => exact HC0_1.out); (case side3 => exact zCb HR0_2 HB); (case side4 => exact HC0_2.out); (case side5 => exact TabT.now HTab.out (zB HB)); rintro e w11 ⟨rfl, hb⟩; refine ⟨_, rfl, ?_⟩; replace BK174 := Aside0.mk (zKb BK174 hb); replace HB := Aside0.mk (below_step (zB HB) hb); (try clear hb); (try clear hb2); (try clear hk); (try clear hi); refine hK.out _ _ ⟨(blk_cell BK174.out 0).trans rfl, (blk_cell BK174.out 1).trans rfl, (blk_cell BK174.out 2).trans rfl⟩ (fun hHeld => ?_); clear hK K; refine znn 14 ?_; refine zpu (i := 10) (n := 15) #[true, true, true, true, true, true, true, true, true, true, true, false, false, false] HT_ ?_; refine zpu (i := 11) (n := 16) #[true, true, true, true, true, true, true, true, true, true, true, true, false, false] HT_ ?_; refine zpu (i := 12) (n := 17) #[true, true, true, true, true, true, true, true, true, true, true, true, true, false] HT_ ?_; refine zpu (i := 13) (n := 4) #[true, true, true, true, true, true, true, true, true, true, true, true, true, true] HT_ ?_; refine done_ (done_of HT_.out (by kernel_rfl)) ?_; try go_wp2
   go_ret; exact ⟨by first | rfl | (simp [errW_none, errW_some] <;> rfl) | (simp [*, errW_none, errW_some] <;> rfl), zB HB⟩
 · replace c4 := Bool.eq_false_iff.mpr c4; subst c4; have H1 : (some false) = some r := by rw [if_neg (show ¬ (false = true) by decide)] at H; exact H
   clear H; have H := H1; clear H1; obtain rfl := Option.some.inj H; go_enter Tryd.func66, Tryd.ntmps66; try go_wp2_with (first | ((with_reducible refine gate_dst (N := 2) rfl ?_); refine zX (N := 2) (cs := #[.int .u64 a0_0, .slice A0_1 l0_1.length c0_1, .slice A0_2 l0_2.length c0_2]) (t := 80) ?_; intro gb174 hg w12 hbox hb; have BK174 := Aside0.mk (hbox); have GW174 := Aside0.mk (zW hg HB); have GE174 := Aside0.mk (zW hg HB); replace HB := Aside0.mk (below_step (zB HB) hb); clear hb hbox hg))
   replace BK174 := Aside0.mk (blk_drew BK174.out); replace HB := Aside0.mk (below_drew1 HB.out); refine start_ (n := 14) (S := fun w' => w'.cell? ⟨gb174, 0, none⟩ = some (.int .u64 a0_0) ∧ w'.cell? ⟨gb174, 1, none⟩ = some (.slice A0_1 l0_1.length c0_1) ∧ w'.cell? ⟨gb174, 2, none⟩ = some (.slice A0_2 l0_2.length c0_2)) (ds := []) #[false, false, false, false, false, false, false, false, false, false, false, false, false, false] (by kernel_rfl) rfl rfl ⟨(blk_cell BK174.out 0).trans rfl, (blk_cell BK174.out 1).trans rfl, (blk_cell BK174.out 2).trans rfl⟩ (fun hHeld => ?_); refine with_tabW network_Net_Admissible.tab1 network_Net_Admissible.bits1 (fun HT_ HW_ => ?_); generalize w12.drew = w13 at BK174 HB hHeld ⊢; refine zpu (i := 1) (n := 6) #[false, true, false, false, false, false, false, false, false, false, false, false, false, false] HT_ ?_; refine zt3 (i := 0) (n := 5) #[true, true, false, false, false, false, false, false, false, false, false, false, false, false] HT_ HW_ hHeld ?_; refine one_ (i := 2) (N := some 7) #[true, true, true, false, false, false, false, false, false, false, false, false, false, false] rfl rfl (one_of HT_.out (by kernel_rfl)) (by decide) (fun K hK => ?_); refine goes_ Tryd.func83 (by kernel_rfl) rfl #[.agg #[.int .u64 a0_0, .slice A0_1 l0_1.length c0_1, .slice A0_2 l0_2.length c0_2], .int .u64 a1] (by rfl) rfl rfl (by (try simp only [List.map_toArray, List.map_cons, List.map_nil]); first | done | rfl | (simp only [List.length_drop, List.length_take]; rfl)) ?_; with_reducible refine (network_Net_Free.calls k a0_0 _ _ l0_1 _ _ l0_2 a1 false _ ?side1 ?side2 ?side3 ?side4 ?side5 A3.out).mono ?_
   (case side1 => exact zCb HR0_1 HB); (case side2 => exact HC0_1.out); (case side3 => exact zCb HR0_2 HB); (case side4 => exact HC0_2.out); (case side5 => exact TabT.now HTab.out (zB HB)); rintro e w14 ⟨rfl, hb⟩; refine ⟨_, rfl, ?_⟩; replace BK174 := Aside0.mk (zKb BK174 hb); replace HB := Aside0.mk (below_step (zB HB) hb); (try clear hb); (try clear hb2); (try clear hk); (try clear hi); refine hK.out _ _ ⟨(blk_cell BK174.out 0).trans rfl, (blk_cell BK174.out 1).trans rfl, (blk_cell BK174.out 2).trans rfl⟩ (fun hHeld => ?_); clear hK K; refine znn 7 ?_; refine zpu (i := 3) (n := 8) #[true, true, true, true, false, false, false, false, false, false, false, false, false, false] HT_ ?_; refine zpn (i := 4) (n := 9) #[true, true, true, true, true, false, false, false, false, false, false, false, false, false] HT_ ?_; refine zpn (i := 5) (n := 10) #[true, true, true, true, true, true, false, false, false, false, false, false, false, false] HT_ ?_; refine zpn (i := 6) (n := 11) #[true, true, true, true, true, true, true, false, false, false, false, false, false, false] HT_ ?_; refine zpn (i := 7) (n := 12) #[true, true, true, true, true, true, true, true, false, false, false, false, false, false] HT_ ?_; refine zpn (i := 8) (n := 13) #[true, true, true, true, true, true, true, true, true, false, false, false, false, false] HT_ ?_; refine zpn (i := 9) (n := 14) #[true, true, true, true, true, true, true, true, true, true, false, false, false, false] HT_ ?_; refine zpn (i := 10) (n := 15) #[true, true, true, true, true, true, true, true, true, true, true, false, false, false] HT_ ?_; refine zpn (i := 11) (n := 16) #[true, true, true, true, true, true, true, true, true, true, true, true, false, false] HT_ ?_; refine zpu (i := 12) (n := 17) #[true, true, true, true, true, true, true, true, true, true, true, true, true, false] HT_ ?_; refine zpu (i := 13) (n := 4) #[true, true, true, true, true, true, true, true, true, true, true, true, true, true] HT_ ?_; refine done_ (done_of HT_.out (by kernel_rfl)) ?_; try go_wp2
   go_ret; exact ⟨by first | rfl | (simp [errW_none, errW_some] <;> rfl) | (simp [*, errW_none, errW_some] <;> rfl), zB HB⟩
end Go.Proofs.YtjmdlmogdbhdhaaDoor.P
namespace Go.Proofs.YtjmdlmogdbhdhaaDoor.P
open Go.RowKit Go.Proofs.YtjmdlmogdbhdhaaDoorW.PrintWords Go.Proofs.YtjmdlmogdbhdhaaDoorW.PrintLast Go.Proofs.YtjmdlmogdbhdhaaDoorW.PrintMore
attribute [local go_sem] max2_int min2_int max_two min_two max_three min_three max_four min_four
set_option linter.unusedVariables false
set_option linter.unusedSimpArgs false
def enforce_acceptable.f (k : Nat) (a0_0 : Int) (l0_1 : List (S42)) (l1 : List Int) (a2 : Int) : Option (Bool) := (network_New.f k a0_0 l0_1).bind fun bt179 => ((network_Of.f k l1).bind fun t186 => (if a2 = 2 then ((network_Net_Stable.f k bt179.1 bt179.2.1 bt179.2.2 t186).bind fun t188 => (some t188)) else ((network_Net_Admissible.f k bt179.1 bt179.2.1 bt179.2.2 t186).bind fun t189 => (some t189))))
set_option maxHeartbeats 8000000 in
set_option maxRecDepth 100000 in
theorem enforce_acceptable.calls (k : Nat) (a0_0 : Int) (A0_1 : Option Addr) (c0_1 : Nat) (l0_1 : List (S42)) (A1 : Option Addr) (c1 : Nat) (l1 : List Int) (a2 : Int) (r : Bool) (w : World) (hr0_1 : Kd.C k42 w A0_1 l0_1.length l0_1) (hc0_1 : l0_1.length ≤ c0_1) (hr1 : Kd.C (Kd.int .i64) w A1 l1.length l1) (hc1 : l1.length ≤ c1) (hT : TabT w) (h : enforce_acceptable.f k a0_0 l0_1 l1 a2 = some r) :
 Calls Tryd.prog 38 #[.agg #[.int .i64 a0_0, .slice A0_1 l0_1.length c0_1], .slice A1 l1.length c1, .int .i64 a2] w fun e w' => e = .returned (.bool r) ∧ Below w.heap.size w w' := by
 have hu24 := Tryd.underlying24; have hu80 := Tryd.underlying80; have HR0_1 := Aside0.mk hr0_1; have HC0_1 := Aside0.mk hc0_1; clear hr0_1 hc0_1; have HR1 := Aside0.mk hr1; have HC1 := Aside0.mk hc1; clear hr1 hc1; have HTab := Aside0.mk hT; clear hT; have HB := Aside0.mk (Below.refl w.heap.size w); have H : ((network_New.f k a0_0 l0_1).bind fun bt179 => ((network_Of.f k l1).bind fun t186 => (if a2 = 2 then ((network_Net_Stable.f k bt179.1 bt179.2.1 bt179.2.2 t186).bind fun t188 => (some t188)) else ((network_Net_Admissible.f k bt179.1 bt179.2.1 bt179.2.2 t186).bind fun t189 => (some t189))))) = some r := h; clear h; replace H := Option.bind_eq_some_iff.mp H; obtain ⟨⟨t179, t180, t183⟩, A40, H⟩ := H; replace H : ((network_Of.f k l1).bind fun t186 => (if a2 = 2 then ((network_Net_Stable.f k t179 t180 t183 t186).bind fun t188 => (some t188)) else ((network_Net_Admissible.f k t179 t180 t183 t186).bind fun t189 => (some t189)))) = some r := H; have A4 := Aside0.mk A40; clear A40; replace H := Option.bind_eq_some_iff.mp H; obtain ⟨t186, A50, H⟩ := H; replace H : (if a2 = 2 then ((network_Net_Stable.f k t179 t180 t183 t186).bind fun t188 => (some t188)) else ((network_Net_Admissible.f k t179 t180 t183 t186).bind fun t189 => (some t189))) = some r := H; have A5 := Aside0.mk A50; clear A50; by_cases c6 : a2 = 2
 · rw [if_pos c6] at H; have c6b0 : (a2 == 2) = true := beq_iff_eq.mpr c6; have c6b1 : (a2 != 2) = false := bne_eq_false_iff_eq.mpr c6; clear c6; replace H := Option.bind_eq_some_iff.mp H; obtain ⟨t188, A70, H⟩ := H; replace H : (some t188) = some r := H; have A7 := Aside0.mk A70; clear A70; obtain rfl := Option.some.inj H; go_enter Tryd.func38, Tryd.ntmps38; go_wp2_with (first | ((with_reducible refine gate_dst (N := 3) rfl ?_); refine zX (N := 3) (cs := #[.int .i64 a0_0, .slice A0_1 l0_1.length c0_1]) (t := 24) ?_; intro gb178 hg w8 hbox hb; have BK178 := Aside0.mk (hbox); have GW178 := Aside0.mk (zW hg HB); have GE178 := Aside0.mk (zW hg HB); replace HB := Aside0.mk (below_step (zB HB) hb); clear hb hbox hg; have hcz9_0 := zc BK178 0; have hcz9_1 := zc BK178 1; have hfz9_0 := blk_frozen BK178.out 0; have hfz9_1 := blk_frozen BK178.out 1) | ((with_reducible refine gate_callee (f := 49) rfl ?_); refine zG (some 10) rfl Tryd.func49 #[.agg #[.int .i64 a0_0, .slice A0_1 l0_1.length c0_1]] ?_; (with_reducible refine (network_New.calls k a0_0 _ _ l0_1 t179 t180 t183 _ ?side1 ?side2 A4.out).mono ?_); (case side1 => exact zCb HR0_1 HB); (case side2 => exact HC0_1.out); rintro e w10 ⟨v181, v184, rfl, ho0, ho1, hb⟩; refine ⟨_, rfl, ?_⟩; have HO182 := Aside0.mk (Kd.R_lower ho0 (below_size (zB HB))); have HO185 := Aside0.mk (Kd.R_lower ho1 (below_size (zB HB))); replace BK178 := Aside0.mk (zKb BK178 hb); replace HB := Aside0.mk (below_step (zB HB) hb); (try clear hb); (try clear hb2); (try clear hk); (try clear hi); (try clear ho0); (try clear ho1)) | ((with_reducible refine gate_callee (f := 48) rfl ?_); refine zG (some 12) rfl Tryd.func48 #[.slice A1 l1.length c1] ?_; (with_reducible refine (network_Of.calls k _ _ l1 t186 _ ?side1 ?side2 A5.out).mono ?_); (case side1 => exact zCb HR1 HB); (case side2 => exact HC1.out); rintro e w' ⟨rfl, ⟨nd, rfl⟩⟩; refine ⟨_, rfl, ?_⟩; (try (rw [drewN_self w10]; generalize hq_ : World.drewN w10 _ = w10; replace HO182 : Aside0 (Kd.R (Kd.int .u64) 76 w10 w.heap.size (fun k_ => some k_ ≠ (v184 : Value).ownBlock) v181 t180) := ⟨by rw [← hq_]; exact (zR HO182)⟩; replace HO185 : Aside0 (Kd.R (Kd.int .u64) 76 w10 w.heap.size (fun k_ => some k_ ≠ (v181 : Value).ownBlock) v184 t183) := ⟨by rw [← hq_]; exact (zR HO185)⟩; replace BK178 : Aside0 (w10.heap[gb178]? = some (.cells #[.int .i64 a0_0, .slice A0_1 l0_1.length c0_1] 24 (0, 0))) := ⟨by rw [← hq_]; exact (zK BK178)⟩; replace HB : Aside0 (Below w.heap.size w w10) := ⟨by rw [← hq_]; exact (zB HB)⟩; clear hq_))) | ((with_reducible refine gate_dst (N := 7) rfl ?_); refine zX (N := 7) (cs := #[.int .u64 0, .slice none 0 0, .slice none 0 0]) (t := 80) ?_; intro gb187 hg w11 hbox hb; have BK187 := Aside0.mk (hbox); have GW187 := Aside0.mk (zW hg HB); have GE187 := Aside0.mk (zW hg HB); have NB178_187 := Aside0.mk (zNl hg BK178); have NB187_178 := Aside0.mk (zNr hg BK178); replace HO182 := Aside0.mk (Kd.R_below (zR HO182) hb); replace HO185 := Aside0.mk (Kd.R_below (zR HO185) hb); replace BK178 := Aside0.mk (zKb BK178 hb); replace HB := Aside0.mk (below_step (zB HB) hb); clear hb hbox hg; have hnb12 := NB187_178.out; have hnc12 := NB178_187.out; have hcz13_0 := zc BK187 0; have hcz13_1 := zc BK187 1; have hcz13_2 := zc BK187 2; have hfz13_0 := blk_frozen BK187.out 0; have hfz13_1 := blk_frozen BK187.out 1; have hfz13_2 := blk_frozen BK187.out 2; obtain ⟨Ao14, co14, eo14⟩ := Kd.R_slice HO182.out; subst eo14; obtain ⟨Ao15, co15, eo15⟩ := Kd.R_slice HO185.out; subst eo15) | ((with_reducible refine gate_callee (f := 65) rfl ?_); refine zG (some 17) rfl Tryd.func65 #[.agg #[.int .u64 t179, .slice Ao14 t180.length co14, .slice Ao15 t183.length co15], .int .u64 t186] ?_; (with_reducible refine (network_Net_Stable.calls k t179 _ _ t180 _ _ t183 t186 t188 _ ?side1 ?side2 ?side3 ?side4 ?side5 A7.out).mono ?_); (case side1 => refine (Kd.R_reads' (e := 76) (base := w.heap.size) (ok := fun k_ => some k_ ≠ (.slice Ao15 t183.length co15 : Value).ownBlock) (n := t180.length) (c := co14) ?_).2.2; exact (by refine zkR ?_; exact (Kd.R_mono (Kd.R_far (p := ⟨gb187, 2, none⟩) (Kd.R_far (p := ⟨gb187, 1, none⟩) (Kd.R_far (p := ⟨gb187, 0, none⟩) (Kd.R_types HO182.out BK187.out (by decide)) (fun _ hk => hk.2) (.int .u64 t179)) (fun _ hk => hk.2) (.slice Ao14 t180.length co14)) (fun _ hk => hk.2) (.slice Ao15 t183.length co15)) (fun _ h_ => h_.1)))); (case side2 => exact (Kd.R_reads' HO182.out).2.1); (case side3 => refine (Kd.R_reads' (e := 76) (base := w.heap.size) (ok := fun k_ => some k_ ≠ (.slice Ao14 t180.length co14 : Value).ownBlock) (n := t183.length) (c := co15) ?_).2.2; exact (by refine zkR ?_; exact (Kd.R_mono (Kd.R_far (p := ⟨gb187, 2, none⟩) (Kd.R_far (p := ⟨gb187, 1, none⟩) (Kd.R_far (p := ⟨gb187, 0, none⟩) (Kd.R_types HO185.out BK187.out (by decide)) (fun _ hk => hk.2) (.int .u64 t179)) (fun _ hk => hk.2) (.slice Ao14 t180.length co14)) (fun _ hk => hk.2) (.slice Ao15 t183.length co15)) (fun _ h_ => h_.1)))); (case side4 => exact (Kd.R_reads' HO185.out).2.1); (case side5 => exact TabT.now HTab.out (zB HB)); rintro e w16 ⟨rfl, hb⟩; refine ⟨_, rfl, ?_⟩; replace HO182 := Aside0.mk (Kd.R_below (by refine zkR ?_; exact (Kd.R_mono (Kd.R_far (p := ⟨gb187, 2, none⟩) (Kd.R_far (p := ⟨gb187, 1, none⟩) (Kd.R_far (p := ⟨gb187, 0, none⟩) (Kd.R_types HO182.out BK187.out (by decide)) (fun _ hk => hk.2) (.int .u64 t179)) (fun _ hk => hk.2) (.slice Ao14 t180.length co14)) (fun _ hk => hk.2) (.slice Ao15 t183.length co15)) (fun _ h_ => h_.1))) hb); replace HO185 := Aside0.mk (Kd.R_below (by refine zkR ?_; exact (Kd.R_mono (Kd.R_far (p := ⟨gb187, 2, none⟩) (Kd.R_far (p := ⟨gb187, 1, none⟩) (Kd.R_far (p := ⟨gb187, 0, none⟩) (Kd.R_types HO185.out BK187.out (by decide)) (fun _ hk => hk.2) (.int .u64 t179)) (fun _ hk => hk.2) (.slice Ao14 t180.length co14)) (fun _ hk => hk.2) (.slice Ao15 t183.length co15)) (fun _ h_ => h_.1))) hb); replace BK178 := Aside0.mk (blk_below (g := gb178) (o := .cells #[.int .i64 a0_0, .slice A0_1 l0_1.length c0_1] 24 (0, 0)) (by refine zk ?_; refine blk_far ?_ NB178_187.out _; refine zk ?_; refine blk_far ?_ NB178_187.out _; refine zk ?_; refine blk_far ?_ NB178_187.out _; refine zk ?_; exact BK178.out) hb); replace BK187 := Aside0.mk (blk_below (g := gb187) (o := .cells #[.int .u64 t179, .slice Ao14 t180.length co14, .slice Ao15 t183.length co15] 80 (0, 0)) (by refine zk ?_; refine blk_put (cs := #[.int .u64 t179, .slice Ao14 t180.length co14, .slice none 0 0]) ?_ 2 _ rfl; refine zk ?_; refine blk_put (cs := #[.int .u64 t179, .slice none 0 0, .slice none 0 0]) ?_ 1 _ rfl; refine zk ?_; refine blk_put (cs := #[.int .u64 0, .slice none 0 0, .slice none 0 0]) ?_ 0 _ rfl; refine zk ?_; exact BK187.out) hb); replace HB := Aside0.mk (below_step (zB HB) hb); (try clear hb); (try clear hb2); (try clear hk); (try clear hi))); go_ret; exact ⟨by first | rfl | (simp [errW_none, errW_some] <;> rfl) | (simp [*, errW_none, errW_some] <;> rfl), zB HB⟩
 · rw [if_neg c6] at H; have c6b0 : (a2 == 2) = false := beq_eq_false_iff_ne.mpr c6; have c6b1 : (a2 != 2) = true := bne_iff_ne.mpr c6; replace H := Option.bind_eq_some_iff.mp H; obtain ⟨t189, A170, H⟩ := H; replace H : (some t189) = some r := H; have A17 := Aside0.mk A170; clear A170; obtain rfl := Option.some.inj H; go_enter Tryd.func38, Tryd.ntmps38; go_wp2_with (first | ((with_reducible refine gate_dst (N := 3) rfl ?_); refine zX (N := 3) (cs := #[.int .i64 a0_0, .slice A0_1 l0_1.length c0_1]) (t := 24) ?_; intro gb178 hg w18 hbox hb; have BK178 := Aside0.mk (hbox); have GW178 := Aside0.mk (zW hg HB); have GE178 := Aside0.mk (zW hg HB); replace HB := Aside0.mk (below_step (zB HB) hb); clear hb hbox hg; have hcz19_0 := zc BK178 0; have hcz19_1 := zc BK178 1; have hfz19_0 := blk_frozen BK178.out 0; have hfz19_1 := blk_frozen BK178.out 1) | ((with_reducible refine gate_callee (f := 49) rfl ?_); refine zG (some 10) rfl Tryd.func49 #[.agg #[.int .i64 a0_0, .slice A0_1 l0_1.length c0_1]] ?_; (with_reducible refine (network_New.calls k a0_0 _ _ l0_1 t179 t180 t183 _ ?side1 ?side2 A4.out).mono ?_); (case side1 => exact zCb HR0_1 HB); (case side2 => exact HC0_1.out); rintro e w20 ⟨v181, v184, rfl, ho0, ho1, hb⟩; refine ⟨_, rfl, ?_⟩; have HO182 := Aside0.mk (Kd.R_lower ho0 (below_size (zB HB))); have HO185 := Aside0.mk (Kd.R_lower ho1 (below_size (zB HB))); replace BK178 := Aside0.mk (zKb BK178 hb); replace HB := Aside0.mk (below_step (zB HB) hb); (try clear hb); (try clear hb2); (try clear hk); (try clear hi); (try clear ho0); (try clear ho1)) | ((with_reducible refine gate_callee (f := 48) rfl ?_); refine zG (some 12) rfl Tryd.func48 #[.slice A1 l1.length c1] ?_; (with_reducible refine (network_Of.calls k _ _ l1 t186 _ ?side1 ?side2 A5.out).mono ?_); (case side1 => exact zCb HR1 HB); (case side2 => exact HC1.out); rintro e w' ⟨rfl, ⟨nd, rfl⟩⟩; refine ⟨_, rfl, ?_⟩; (try (rw [drewN_self w20]; generalize hq_ : World.drewN w20 _ = w20; replace HO182 : Aside0 (Kd.R (Kd.int .u64) 76 w20 w.heap.size (fun k_ => some k_ ≠ (v184 : Value).ownBlock) v181 t180) := ⟨by rw [← hq_]; exact (zR HO182)⟩; replace HO185 : Aside0 (Kd.R (Kd.int .u64) 76 w20 w.heap.size (fun k_ => some k_ ≠ (v181 : Value).ownBlock) v184 t183) := ⟨by rw [← hq_]; exact (zR HO185)⟩; replace BK178 : Aside0 (w20.heap[gb178]? = some (.cells #[.int .i64 a0_0, .slice A0_1 l0_1.length c0_1] 24 (0, 0))) := ⟨by rw [← hq_]; exact (zK BK178)⟩; replace HB : Aside0 (Below w.heap.size w w20) := ⟨by rw [← hq_]; exact (zB HB)⟩; clear hq_))) | ((with_reducible refine gate_dst (N := 7) rfl ?_); refine zX (N := 7) (cs := #[.int .u64 0, .slice none 0 0, .slice none 0 0]) (t := 80) ?_; intro gb187 hg w21 hbox hb; have BK187 := Aside0.mk (hbox); have GW187 := Aside0.mk (zW hg HB); have GE187 := Aside0.mk (zW hg HB); have NB178_187 := Aside0.mk (zNl hg BK178); have NB187_178 := Aside0.mk (zNr hg BK178); replace HO182 := Aside0.mk (Kd.R_below (zR HO182) hb); replace HO185 := Aside0.mk (Kd.R_below (zR HO185) hb); replace BK178 := Aside0.mk (zKb BK178 hb); replace HB := Aside0.mk (below_step (zB HB) hb); clear hb hbox hg; have hnb22 := NB187_178.out; have hnc22 := NB178_187.out; have hcz23_0 := zc BK187 0; have hcz23_1 := zc BK187 1; have hcz23_2 := zc BK187 2; have hfz23_0 := blk_frozen BK187.out 0; have hfz23_1 := blk_frozen BK187.out 1; have hfz23_2 := blk_frozen BK187.out 2; obtain ⟨Ao24, co24, eo24⟩ := Kd.R_slice HO182.out; subst eo24; obtain ⟨Ao25, co25, eo25⟩ := Kd.R_slice HO185.out; subst eo25) | ((with_reducible refine gate_callee (f := 66) rfl ?_); refine zG (some 20) rfl Tryd.func66 #[.agg #[.int .u64 t179, .slice Ao24 t180.length co24, .slice Ao25 t183.length co25], .int .u64 t186] ?_; (with_reducible refine (network_Net_Admissible.calls k t179 _ _ t180 _ _ t183 t186 t189 _ ?side1 ?side2 ?side3 ?side4 ?side5 A17.out).mono ?_); (case side1 => refine (Kd.R_reads' (e := 76) (base := w.heap.size) (ok := fun k_ => some k_ ≠ (.slice Ao25 t183.length co25 : Value).ownBlock) (n := t180.length) (c := co24) ?_).2.2; exact (by refine zkR ?_; exact (Kd.R_mono (Kd.R_far (p := ⟨gb187, 2, none⟩) (Kd.R_far (p := ⟨gb187, 1, none⟩) (Kd.R_far (p := ⟨gb187, 0, none⟩) (Kd.R_types HO182.out BK187.out (by decide)) (fun _ hk => hk.2) (.int .u64 t179)) (fun _ hk => hk.2) (.slice Ao24 t180.length co24)) (fun _ hk => hk.2) (.slice Ao25 t183.length co25)) (fun _ h_ => h_.1)))); (case side2 => exact (Kd.R_reads' HO182.out).2.1); (case side3 => refine (Kd.R_reads' (e := 76) (base := w.heap.size) (ok := fun k_ => some k_ ≠ (.slice Ao24 t180.length co24 : Value).ownBlock) (n := t183.length) (c := co25) ?_).2.2; exact (by refine zkR ?_; exact (Kd.R_mono (Kd.R_far (p := ⟨gb187, 2, none⟩) (Kd.R_far (p := ⟨gb187, 1, none⟩) (Kd.R_far (p := ⟨gb187, 0, none⟩) (Kd.R_types HO185.out BK187.out (by decide)) (fun _ hk => hk.2) (.int .u64 t179)) (fun _ hk => hk.2) (.slice Ao24 t180.length co24)) (fun _ hk => hk.2) (.slice Ao25 t183.length co25)) (fun _ h_ => h_.1)))); (case side4 => exact (Kd.R_reads' HO185.out).2.1); (case side5 => exact TabT.now HTab.out (zB HB)); rintro e w26 ⟨rfl, hb⟩; refine ⟨_, rfl, ?_⟩; replace HO182 := Aside0.mk (Kd.R_below (by refine zkR ?_; exact (Kd.R_mono (Kd.R_far (p := ⟨gb187, 2, none⟩) (Kd.R_far (p := ⟨gb187, 1, none⟩) (Kd.R_far (p := ⟨gb187, 0, none⟩) (Kd.R_types HO182.out BK187.out (by decide)) (fun _ hk => hk.2) (.int .u64 t179)) (fun _ hk => hk.2) (.slice Ao24 t180.length co24)) (fun _ hk => hk.2) (.slice Ao25 t183.length co25)) (fun _ h_ => h_.1))) hb); replace HO185 := Aside0.mk (Kd.R_below (by refine zkR ?_; exact (Kd.R_mono (Kd.R_far (p := ⟨gb187, 2, none⟩) (Kd.R_far (p := ⟨gb187, 1, none⟩) (Kd.R_far (p := ⟨gb187, 0, none⟩) (Kd.R_types HO185.out BK187.out (by decide)) (fun _ hk => hk.2) (.int .u64 t179)) (fun _ hk => hk.2) (.slice Ao24 t180.length co24)) (fun _ hk => hk.2) (.slice Ao25 t183.length co25)) (fun _ h_ => h_.1))) hb); replace BK178 := Aside0.mk (blk_below (g := gb178) (o := .cells #[.int .i64 a0_0, .slice A0_1 l0_1.length c0_1] 24 (0, 0)) (by refine zk ?_; refine blk_far ?_ NB178_187.out _; refine zk ?_; refine blk_far ?_ NB178_187.out _; refine zk ?_; refine blk_far ?_ NB178_187.out _; refine zk ?_; exact BK178.out) hb); replace BK187 := Aside0.mk (blk_below (g := gb187) (o := .cells #[.int .u64 t179, .slice Ao24 t180.length co24, .slice Ao25 t183.length co25] 80 (0, 0)) (by refine zk ?_; refine blk_put (cs := #[.int .u64 t179, .slice Ao24 t180.length co24, .slice none 0 0]) ?_ 2 _ rfl; refine zk ?_; refine blk_put (cs := #[.int .u64 t179, .slice none 0 0, .slice none 0 0]) ?_ 1 _ rfl; refine zk ?_; refine blk_put (cs := #[.int .u64 0, .slice none 0 0, .slice none 0 0]) ?_ 0 _ rfl; refine zk ?_; exact BK187.out) hb); replace HB := Aside0.mk (below_step (zB HB) hb); (try clear hb); (try clear hb2); (try clear hk); (try clear hi))); go_ret; exact ⟨by first | rfl | (simp [errW_none, errW_some] <;> rfl) | (simp [*, errW_none, errW_some] <;> rfl), zB HB⟩
end Go.Proofs.YtjmdlmogdbhdhaaDoor.P
/- Plain facts: the network of a graph; what is hit; free, stable and admissible sets. -/
namespace Go.Proofs.YtjmdlmogdbhdhaaDoor.P
open Go.RowKit Go.Proofs.YtjmdlmogdbhdhaaDoorW.PrintWords Go.Proofs.YtjmdlmogdbhdhaaDoorW.PrintLast Go.Proofs.YtjmdlmogdbhdhaaDoorW.PrintMore
/-- There is an edge from a to b. -/
def edg (L : List S42) (a b : Nat) : Bool := decide ((⟨(a : Int), (b : Int)⟩ : S42) ∈ L)
structure NetOk (N : Int) (L : List S42) (al : Int) (by_ out : List Int) : Prop where
  al : Rep al (fun a => decide ((a : Int) < N))
  lb : (by_.length : Int) = N
  lo : (out.length : Int) = N
  rb : ∀ j : Nat, (j : Int) < N → Rep (rd by_ j) (fun a => edg L a j)
  ro : ∀ j : Nat, (j : Int) < N → Rep (rd out j) (fun b => edg L j b)
theorem rd_set (l : List Int) (i j : Nat) (v : Int) (hi : i < l.length) : rd (l.set i v) (j : Int) = if j = i then v else rd l (j : Int) := by
  unfold rd
  simp only [Int.toNat_natCast]
  by_cases h : j = i
  · subst h
    simp [hi]
  · simp [h, List.getElem?_set, Ne.symm h]
theorem rd_rep (n j : Nat) : rd (List.replicate n 0) (j : Int) = 0 := by
  unfold rd
  simp [List.getElem?_replicate]
  split <;> rfl
theorem edg_take (L : List S42) (i : Nat) (hi : i < L.length) (a b : Nat) : edg (L.take (i + 1)) a b = (edg (L.take i) a b || decide ((a : Int) = L[i].f0 ∧ (b : Int) = L[i].f1)) := by
  unfold edg
  rw [List.take_succ_eq_append_getElem hi]
  simp only [List.mem_append, List.mem_singleton, Bool.decide_or]
  congr 1
  refine decide_eq_decide.2 ⟨fun h => by rw [← h]; exact ⟨rfl, rfl⟩, fun h => ?_⟩
  generalize L[i] = e at h ⊢
  cases e
  simp only at h
  rw [h.1, h.2]
theorem new_l1 {N : Int} {L : List S42} (hG : GoodG N L) (al : Int) : ∀ (n i : Nat), n + i = L.length → ∀ (by_ out : List Int), NetOk N (L.take i) al by_ out → ∃ by2 out2, Ev (fun k => network_New.l1 k L (L.length : Int) (i : Int) al by_ out) (al, by2, out2) ∧ NetOk N L al by2 out2
  | 0, i, hi, by_, out, h => by
    refine ⟨by_, out, Ev.succ ?_, ?_⟩
    · simp only [network_New.l1]
      exact Ev.neg (by omega) (Ev.const _)
    · rwa [List.take_of_length_le (by omega)] at h
  | n + 1, i, hi, by_, out, h => by
    have hlt : i < L.length := by omega
    have hlen := good_len hG
    have hw : wrap64 ((i : Int) + 1) = ((i + 1 : Nat) : Int) := by rw [wrap_id _ (by omega) (by omega)]; rfl
    have hr := hG.inr _ (List.getElem_mem hlt)
    have hN := hG.n1
    have het := edg_take L i hlt
    generalize hp : L[i] = p at hr het
    obtain ⟨x, hx⟩ : ∃ x : Nat, p.f0 = x := ⟨p.f0.toNat, by omega⟩
    obtain ⟨y, hy⟩ : ∃ y : Nat, p.f1 = y := ⟨p.f1.toNat, by omega⟩
    obtain ⟨u, e1, hu⟩ := with_ok (h.rb y (by omega)) x (by omega)
    obtain ⟨v, e2, hv⟩ := with_ok (h.ro x (by omega)) y (by omega)
    have hlb := h.lb
    have hlo := h.lo
    obtain ⟨by2, out2, e3, h3⟩ := new_l1 hG al n (i + 1) (by omega) (by_.set y u) (out.set x v) (by
      refine ⟨h.al, by rw [List.length_set]; exact hlb, by rw [List.length_set]; exact hlo, fun j hj => ?_, fun j hj => ?_⟩
      · rw [rd_set _ _ _ _ (by omega)]
        split
        · rename_i hjy
          subst hjy
          exact hu.congr fun a => by
            rw [het, hx, hy]
            congr 1
            exact decide_eq_decide.2 (by omega)
        · rename_i hjy
          exact (h.rb j hj).congr fun a => by
            rw [het, hx, hy, decide_eq_false (by omega), Bool.or_false]
      · rw [rd_set _ _ _ _ (by omega)]
        split
        · rename_i hjx
          subst hjx
          exact hv.congr fun a => by
            rw [het, hx, hy]
            congr 1
            exact decide_eq_decide.2 (by omega)
        · rename_i hjx
          exact (h.ro j hj).congr fun a => by
            rw [het, hx, hy, decide_eq_false (by omega), Bool.or_false])
    refine ⟨by2, out2, Ev.succ ?_, h3⟩
    simp only [network_New.l1, rdT_get L i hlt, hp, hx, hy, hw, e1, e2, Option.bind_some, Int.toNat_natCast]
    exact Ev.pos (by omega) (Ev.pos (by omega) (Ev.pos (by omega) (Ev.pos (by omega) (Ev.pos (by omega) (Ev.pos (by omega) (Ev.pos (by omega) e3))))))
theorem new_l0 {N : Int} {L : List S42} (hG : GoodG N L) (by_ out : List Int) : ∀ (n i : Nat), ((n + i : Nat) : Int) = N → ∀ (al : Int), Rep al (fun a => decide (a < i)) → (∀ al, Rep al (fun a => decide ((a : Int) < N)) → NetOk N (L.take 0) al by_ out) → ∃ al2 by2 out2, Ev (fun k => network_New.l0 k N (i : Int) N L al by_ out) (al2, by2, out2) ∧ NetOk N L al2 by2 out2
  | 0, i, hi, al, ha, h => by
    have h2 : Rep al (fun a => decide ((a : Int) < N)) := ha.congr fun a => decide_eq_decide.2 (by omega)
    obtain ⟨by2, out2, e, h3⟩ := new_l1 hG al L.length 0 (by omega) by_ out (h al h2)
    refine ⟨al, by2, out2, Ev.succ ?_, h3⟩
    simp only [network_New.l0]
    exact Ev.neg (by omega) e
  | n + 1, i, hi, al, ha, h => by
    have hN := hG.n1
    have hw : wrap64 ((i : Int) + 1) = ((i + 1 : Nat) : Int) := by rw [wrap_id _ (by omega) (by omega)]; rfl
    obtain ⟨v, e1, hv⟩ := with_ok ha i (by omega)
    obtain ⟨al2, by2, out2, e2, h2⟩ := new_l0 hG by_ out n (i + 1) (by omega) v (hv.congr fun a => by
      rw [← Bool.decide_or]
      exact decide_eq_decide.2 (by omega)) h
    refine ⟨al2, by2, out2, Ev.succ ?_, h2⟩
    simp only [network_New.l0, e1, hw, Option.bind_some]
    exact Ev.pos (by omega) e2
theorem new_ev {N : Int} {L : List S42} (hG : GoodG N L) : ∃ al by_ out, Ev (fun k => network_New.f k N L) (al, by_, out) ∧ NetOk N L al by_ out := by
  have h0 := hG.n0
  have h1 := hG.n1
  obtain ⟨al, by_, out, e, h⟩ := new_l0 hG (List.replicate N.toNat 0) (List.replicate N.toNat 0) N.toNat 0 (by omega) 0 (Rep.zero.congr fun a => by simp) (fun al ha => ⟨ha, by rw [List.length_replicate]; omega, by rw [List.length_replicate]; omega, fun j hj => by
    rw [rd_rep]
    exact Rep.zero.congr fun a => by simp [edg], fun j hj => by
    rw [rd_rep]
    exact Rep.zero.congr fun a => by simp [edg]⟩)
  refine ⟨al, by_, out, ?_, h⟩
  simp only [network_New.f]
  exact Ev.pos (by omega) (Ev.pos (by omega) e)
/-- Some element of s attacks b. -/
def hits (L : List S42) (s : Nat → Bool) (b : Nat) : Bool := (List.range 64).any fun a => s a && edg L a b
/-- Some element of s is attacked by a. -/
def hitBy (L : List S42) (s : Nat → Bool) (a : Nat) : Bool := (List.range 64).any fun b => s b && edg L a b
theorem rep_union {N : Int} {row : List Int} {q : Nat → Nat → Bool} (hN : N ≤ 64) (hrow : ∀ j : Nat, (j : Int) < N → Rep (rd row j) (q j)) (l : List Int) (hl : ∀ x ∈ l, 0 ≤ x ∧ x < N) : ∀ (u : Int) (p : Nat → Bool), Rep u p → Rep (l.foldl (fun u x => Go.bits .or .u64 u (rd row x)) u) (fun b => p b || l.any fun x => q x.toNat b) := by
  induction l with
  | nil => intro u p hu; exact hu.congr fun b => by simp
  | cons x r ih =>
    intro u p hu
    have hx := hl x (by simp)
    have h1 : Rep (rd row x) (q x.toNat) := by
      have := hrow x.toNat (by omega)
      rwa [show ((x.toNat : Nat) : Int) = x by omega] at this
    exact (ih (fun y hy => hl y (by simp [hy])) _ _ (hu.or h1)).congr fun b => by simp [Bool.or_assoc]
theorem hit_l0 {a0 : Int} {by_ out l : List Int} (hl : ∀ x ∈ l, 0 ≤ x ∧ x < (out.length : Int)) (hlen : l.length ≤ 1000000) : ∀ (n i : Nat), n + i = l.length → ∀ u : Int, Ev (fun k => network_Net_Hit.l0 k u l (l.length : Int) (i : Int) a0 by_ out) ((l.drop i).foldl (fun u x => Go.bits .or .u64 u (rd out x)) u)
  | 0, i, hi, u => by
    refine Ev.succ ?_
    simp only [network_Net_Hit.l0]
    refine Ev.neg (by omega) ?_
    rw [List.drop_eq_nil_of_le (by omega)]
    exact Ev.const _
  | n + 1, i, hi, u => by
    have hlt : i < l.length := by omega
    have hx := hl _ (List.getElem_mem hlt)
    have hw : wrap64 ((i : Int) + 1) = ((i + 1 : Nat) : Int) := by rw [wrap_id _ (by omega) (by omega)]; rfl
    have ih := hit_l0 (a0 := a0) (by_ := by_) hl hlen n (i + 1) (by omega) (Go.bits .or .u64 u (rd out l[i]))
    refine Ev.succ ?_
    simp only [network_Net_Hit.l0, rd_get l i hlt, hw]
    refine Ev.pos (by omega) (Ev.pos (by omega) (Ev.pos (by omega) (Ev.pos hx.1 (Ev.pos hx.2 ?_))))
    rw [List.drop_eq_getElem_cons hlt]
    exact ih
theorem att_l0 {a0 : Int} {by_ out l : List Int} (hl : ∀ x ∈ l, 0 ≤ x ∧ x < (by_.length : Int)) (hlen : l.length ≤ 1000000) : ∀ (n i : Nat), n + i = l.length → ∀ u : Int, Ev (fun k => network_Net_Attackers.l0 k u l (l.length : Int) (i : Int) a0 by_ out) ((l.drop i).foldl (fun u x => Go.bits .or .u64 u (rd by_ x)) u)
  | 0, i, hi, u => by
    refine Ev.succ ?_
    simp only [network_Net_Attackers.l0]
    refine Ev.neg (by omega) ?_
    rw [List.drop_eq_nil_of_le (by omega)]
    exact Ev.const _
  | n + 1, i, hi, u => by
    have hlt : i < l.length := by omega
    have hx := hl _ (List.getElem_mem hlt)
    have hw : wrap64 ((i : Int) + 1) = ((i + 1 : Nat) : Int) := by rw [wrap_id _ (by omega) (by omega)]; rfl
    have ih := att_l0 (a0 := a0) (out := out) hl hlen n (i + 1) (by omega) (Go.bits .or .u64 u (rd by_ l[i]))
    refine Ev.succ ?_
    simp only [network_Net_Attackers.l0, rd_get l i hlt, hw]
    refine Ev.pos (by omega) (Ev.pos (by omega) (Ev.pos (by omega) (Ev.pos hx.1 (Ev.pos hx.2 ?_))))
    rw [List.drop_eq_getElem_cons hlt]
    exact ih
theorem lst_len (p : Nat → Bool) : (lst p).length ≤ 64 := by
  unfold lst
  rw [List.length_map]
  exact Nat.le_trans (List.length_filter_le _ _) (by simp)
theorem lst_any (p : Nat → Bool) (f : Nat → Bool) : ((lst p).any fun x => f x.toNat) = (List.range 64).any fun a => p a && f a := by
  unfold lst
  rw [List.any_map, List.any_filter]
  rfl
theorem hit_ok {N : Int} {L : List S42} {al : Int} {by_ out : List Int} (h : NetOk N L al by_ out) (hN : N ≤ 40) {u : Int} {s : Nat → Bool} (hu : Rep u s) (hs : ∀ a : Nat, s a = true → (a : Int) < N) : ∃ v, Ev (fun k => network_Net_Hit.f k al by_ out u) v ∧ Rep v (hits L s) := by
  have hm : ∀ x ∈ lst s, 0 ≤ x ∧ x < N := fun x hx => by
    have := (lst_mem (fun a ha => hu.small ha) x).1 hx
    have := hs _ this.2
    omega
  refine ⟨_, ?_, (rep_union (by omega) h.ro (lst s) hm 0 _ Rep.zero).congr fun b => ?_⟩
  · simp only [network_Net_Hit.f]
    have hlo := h.lo
    exact Ev.bind (list_ev hu) (hit_l0 (fun x hx => by rw [hlo]; exact hm x hx) (Nat.le_trans (lst_len s) (by omega)) (lst s).length 0 (by omega) 0)
  · rw [Bool.false_or, lst_any s (fun a => edg L a b)]
    rfl
theorem att_ok {N : Int} {L : List S42} {al : Int} {by_ out : List Int} (h : NetOk N L al by_ out) (hN : N ≤ 40) {u : Int} {s : Nat → Bool} (hu : Rep u s) (hs : ∀ a : Nat, s a = true → (a : Int) < N) : ∃ v, Ev (fun k => network_Net_Attackers.f k al by_ out u) v ∧ Rep v (hitBy L s) := by
  have hm : ∀ x ∈ lst s, 0 ≤ x ∧ x < N := fun x hx => by
    have := (lst_mem (fun a ha => hu.small ha) x).1 hx
    have := hs _ this.2
    omega
  refine ⟨_, ?_, (rep_union (by omega) h.rb (lst s) hm 0 _ Rep.zero).congr fun b => ?_⟩
  · simp only [network_Net_Attackers.f]
    have hlb := h.lb
    exact Ev.bind (list_ev hu) (att_l0 (fun x hx => by rw [hlb]; exact hm x hx) (Nat.le_trans (lst_len s) (by omega)) (lst s).length 0 (by omega) 0)
  · rw [Bool.false_or, lst_any s (fun a => edg L b a)]
    rfl
end Go.Proofs.YtjmdlmogdbhdhaaDoor.P
/- Plain facts: acceptable sets, as the program's sets of bits tell them. -/
namespace Go.Proofs.YtjmdlmogdbhdhaaDoor.P
open Go.RowKit Go.Proofs.YtjmdlmogdbhdhaaDoorW.PrintWords Go.Proofs.YtjmdlmogdbhdhaaDoorW.PrintLast Go.Proofs.YtjmdlmogdbhdhaaDoorW.PrintMore
theorem Rep.isz {u : Int} {p : Nat → Bool} (h : Rep u p) : (u == 0) = (List.range 64).all fun a => !p a := by
  have hz := h.eq_zero
  by_cases h0 : u = 0
  · rw [beq_iff_eq.2 h0, eq_comm, List.all_eq_true]
    intro a _
    rw [hz.1 h0 a]
    rfl
  · rw [beq_eq_false_iff_ne.2 h0, eq_comm, Bool.eq_false_iff]
    intro hall
    rw [List.all_eq_true] at hall
    refine h0 (hz.2 fun a => ?_)
    rcases Nat.lt_or_ge a 64 with ha | ha
    · simpa using hall a (List.mem_range.2 ha)
    · exact h.small ha
def fr (L : List S42) (s : Nat → Bool) : Bool := (List.range 64).all fun b => !(hits L s b && s b)
def sta (N : Int) (L : List S42) (s : Nat → Bool) : Bool := (List.range 64).all fun a => !(decide ((a : Int) < N) && !s a && !hits L s a)
def adm (L : List S42) (s : Nat → Bool) : Bool := (List.range 64).all fun a => !(hitBy L s a && !hits L s a)
def acc (N : Int) (L : List S42) (s : Nat → Bool) (kind : Int) : Bool := fr L s && if kind = 2 then sta N L s else adm L s
/-- A set that is given by its list. -/
def SetL (N : Int) (l : List Int) : Prop := (∀ x ∈ l, 0 ≤ x ∧ x < N) ∧ l.Pairwise (· < ·)
def inl (l : List Int) (a : Nat) : Bool := decide ((a : Int) ∈ l)
theorem SetL.len {N : Int} {l : List Int} (h : SetL N l) (h0 : 0 ≤ N) (hN : N ≤ 40) : l.length ≤ 40 := by
  have := ints_len l 0 N h0 h.2 h.1
  omega
theorem SetL.sup {N : Int} {l : List Int} (h : SetL N l) (a : Nat) (ha : inl l a = true) : (a : Int) < N := (h.1 _ (of_decide_eq_true ha)).2
theorem SetL.of {N : Int} {l : List Int} (h : SetL N l) (h0 : 0 ≤ N) (hN : N ≤ 40) : ∃ u, Ev (fun k => network_Of.f k l) u ∧ Rep u (inl l) :=
  of_ok (fun x hx => by have := h.1 x hx; omega) (by have := h.len h0 hN; omega)
theorem free_ok {N : Int} {L : List S42} {al : Int} {by_ out : List Int} (h : NetOk N L al by_ out) (hN : N ≤ 40) {u : Int} {s : Nat → Bool} (hu : Rep u s) (hs : ∀ a : Nat, s a = true → (a : Int) < N) : Ev (fun k => network_Net_Free.f k al by_ out u) (fr L s) := by
  obtain ⟨v, e, hv⟩ := hit_ok h hN hu hs
  simp only [network_Net_Free.f]
  refine Ev.bind e ?_
  rw [(hv.and hu).isz]
  exact Ev.const _
theorem stable_ok {N : Int} {L : List S42} {al : Int} {by_ out : List Int} (h : NetOk N L al by_ out) (hN : N ≤ 40) {u : Int} {s : Nat → Bool} (hu : Rep u s) (hs : ∀ a : Nat, s a = true → (a : Int) < N) : Ev (fun k => network_Net_Stable.f k al by_ out u) (fr L s && sta N L s) := by
  obtain ⟨v, e, hv⟩ := hit_ok h hN hu hs
  simp only [network_Net_Stable.f]
  refine Ev.bind (free_ok h hN hu hs) ?_
  cases fr L s with
  | false => exact Ev.neg (by simp) (Ev.const _)
  | true =>
    refine Ev.pos rfl (Ev.bind e ?_)
    rw [((h.al.andNot hu).andNot hv).isz]
    exact Ev.const _
theorem admissible_ok {N : Int} {L : List S42} {al : Int} {by_ out : List Int} (h : NetOk N L al by_ out) (hN : N ≤ 40) {u : Int} {s : Nat → Bool} (hu : Rep u s) (hs : ∀ a : Nat, s a = true → (a : Int) < N) : Ev (fun k => network_Net_Admissible.f k al by_ out u) (fr L s && adm L s) := by
  obtain ⟨v, e, hv⟩ := hit_ok h hN hu hs
  obtain ⟨t, e2, ht⟩ := att_ok h hN hu hs
  simp only [network_Net_Admissible.f]
  refine Ev.bind (free_ok h hN hu hs) ?_
  cases fr L s with
  | false => exact Ev.neg (by simp) (Ev.const _)
  | true =>
    refine Ev.pos rfl (Ev.bind e2 (Ev.bind e ?_))
    rw [(ht.andNot hv).isz]
    exact Ev.const _
theorem acceptable_ok {N : Int} {L : List S42} (hG : GoodG N L) {l : List Int} (hl : SetL N l) (kind : Int) : Ev (fun k => enforce_acceptable.f k N L l kind) (acc N L (inl l) kind) := by
  obtain ⟨al, by_, out, e, h⟩ := new_ev hG
  obtain ⟨u, e2, hu⟩ := hl.of hG.n0 hG.n1
  simp only [enforce_acceptable.f]
  refine Ev.bind e (Ev.bind e2 ?_)
  unfold acc
  by_cases hk : kind = 2
  · rw [if_pos hk]
    exact Ev.pos hk (Ev.bind (stable_ok h hG.n1 hu hl.sup) (Ev.const _))
  · rw [if_neg hk]
    exact Ev.neg hk (Ev.bind (admissible_ok h hG.n1 hu hl.sup) (Ev.const _))
/-! ### in words -/
theorem hits_iff (L : List S42) (l : List Int) (hl : ∀ x ∈ l, 0 ≤ x ∧ x < 64) (b : Nat) : hits L (inl l) b = true ↔ ∃ a ∈ l, (⟨a, (b : Int)⟩ : S42) ∈ L := by
  unfold hits
  rw [List.any_eq_true]
  constructor
  · rintro ⟨a, _, h⟩
    rw [Bool.and_eq_true] at h
    exact ⟨(a : Int), of_decide_eq_true h.1, of_decide_eq_true h.2⟩
  · rintro ⟨a, ha, he⟩
    have := hl a ha
    have hc : ((a.toNat : Nat) : Int) = a := by omega
    refine ⟨a.toNat, List.mem_range.2 (by omega), ?_⟩
    rw [Bool.and_eq_true]
    exact ⟨decide_eq_true (by rw [hc]; exact ha), decide_eq_true (by rw [hc]; exact he)⟩
theorem hitBy_iff (L : List S42) (l : List Int) (hl : ∀ x ∈ l, 0 ≤ x ∧ x < 64) (a : Nat) : hitBy L (inl l) a = true ↔ ∃ b ∈ l, (⟨(a : Int), b⟩ : S42) ∈ L := by
  unfold hitBy
  rw [List.any_eq_true]
  constructor
  · rintro ⟨b, _, h⟩
    rw [Bool.and_eq_true] at h
    exact ⟨(b : Int), of_decide_eq_true h.1, of_decide_eq_true h.2⟩
  · rintro ⟨b, hb, he⟩
    have := hl b hb
    have hc : ((b.toNat : Nat) : Int) = b := by omega
    refine ⟨b.toNat, List.mem_range.2 (by omega), ?_⟩
    rw [Bool.and_eq_true]
    exact ⟨decide_eq_true (by rw [hc]; exact hb), decide_eq_true (by rw [hc]; exact he)⟩
/-- Acceptable, in words: free of conflicts; and stable: all outside are hit, or admissible: all that hit the set are hit. -/
def AccP (N : Int) (L : List S42) (l : List Int) (kind : Int) : Prop :=
  (∀ a ∈ l, ∀ b ∈ l, ¬ (⟨a, b⟩ : S42) ∈ L) ∧
  if kind = 2 then ∀ a : Int, 0 ≤ a → a < N → a ∈ l ∨ ∃ x ∈ l, (⟨x, a⟩ : S42) ∈ L
  else ∀ p ∈ L, p.f1 ∈ l → ∃ x ∈ l, (⟨x, p.f0⟩ : S42) ∈ L
theorem acc_iff {N : Int} {L : List S42} (hG : GoodG N L) {l : List Int} (hl : SetL N l) (kind : Int) : acc N L (inl l) kind = true ↔ AccP N L l kind := by
  have hN := hG.n1
  have hl64 : ∀ x ∈ l, 0 ≤ x ∧ x < 64 := fun x hx => by have := hl.1 x hx; omega
  unfold acc AccP
  rw [Bool.and_eq_true]
  have h1 : fr L (inl l) = true ↔ ∀ a ∈ l, ∀ b ∈ l, ¬ (⟨a, b⟩ : S42) ∈ L := by
    unfold fr
    rw [List.all_eq_true]
    constructor
    · intro h a ha b hb he
      have hb64 := hl64 b hb
      have hc : ((b.toNat : Nat) : Int) = b := by omega
      have := h b.toNat (List.mem_range.2 (by omega))
      rw [(hits_iff L l hl64 b.toNat).2 ⟨a, ha, by rw [hc]; exact he⟩, show inl l b.toNat = true from decide_eq_true (by rw [hc]; exact hb)] at this
      simp at this
    · intro h b _
      rw [Bool.not_eq_true', Bool.and_eq_false_iff]
      by_cases hb : inl l b = true
      · left
        rw [Bool.eq_false_iff]
        intro hh
        obtain ⟨a, ha, he⟩ := (hits_iff L l hl64 b).1 hh
        exact h a ha b (of_decide_eq_true hb) he
      · right
        simpa using hb
  refine and_congr h1 ?_
  by_cases hk : kind = 2
  · rw [if_pos hk, if_pos hk]
    unfold sta
    rw [List.all_eq_true]
    constructor
    · intro h a h0 ha
      have hc : ((a.toNat : Nat) : Int) = a := by omega
      have := h a.toNat (List.mem_range.2 (by omega))
      rw [hc, decide_eq_true ha] at this
      simp only [Bool.true_and, Bool.not_eq_true', Bool.and_eq_false_iff, Bool.not_eq_false'] at this
      rcases this with h2 | h2
      · exact .inl (by have := of_decide_eq_true h2; rwa [hc] at this)
      · obtain ⟨x, hx, he⟩ := (hits_iff L l hl64 _).1 h2
        exact .inr ⟨x, hx, by rwa [hc] at he⟩
    · intro h a _
      by_cases haN : (a : Int) < N
      · rcases h a (by omega) haN with h2 | h2
        · rw [show inl l a = true from decide_eq_true h2]
          simp
        · rw [(hits_iff L l hl64 a).2 h2]
          simp
      · rw [decide_eq_false haN]
        simp
  · rw [if_neg hk, if_neg hk]
    unfold adm
    rw [List.all_eq_true]
    constructor
    · intro h p hp hb
      have hr := hG.inr p hp
      have hc : ((p.f0.toNat : Nat) : Int) = p.f0 := by omega
      have := h p.f0.toNat (List.mem_range.2 (by omega))
      rw [(hitBy_iff L l hl64 _).2 ⟨p.f1, hb, by rw [hc]; exact hp⟩] at this
      simp only [Bool.true_and, Bool.not_not] at this
      obtain ⟨x, hx, he⟩ := (hits_iff L l hl64 _).1 this
      exact ⟨x, hx, by rwa [hc] at he⟩
    · intro h a _
      by_cases hb : hitBy L (inl l) a = true
      · obtain ⟨b, hb2, he⟩ := (hitBy_iff L l hl64 a).1 hb
        rw [(hits_iff L l hl64 a).2 (h ⟨a, b⟩ he hb2)]
        simp
      · rw [Bool.not_eq_true] at hb
        rw [hb]
        simp
end Go.Proofs.YtjmdlmogdbhdhaaDoor.P
namespace Go.Proofs.YtjmdlmogdbhdhaaDoor.P
open Go.RowKit Go.Proofs.YtjmdlmogdbhdhaaDoorW.PrintWords Go.Proofs.YtjmdlmogdbhdhaaDoorW.PrintLast Go.Proofs.YtjmdlmogdbhdhaaDoorW.PrintMore
attribute [local go_sem] max2_int min2_int max_two min_two max_three min_three max_four min_four
set_option linter.unusedVariables false
set_option linter.unusedSimpArgs false
def deliberationnet_In.l0 : Nat → List Int → Int → Int → Option (Bool)
 | 0, _, _, _ => none
 | k + 1, x0, x1, x5 => if x5 < (x0.length : Int) then (if 0 ≤ x5 then (if (rd x0 x5) = x1 then (some true) else (deliberationnet_In.l0 k x0 x1 (wrap64 (x5 + 1)))) else (none)) else (some false)
def deliberationnet_In.f (k : Nat) (l0 : List Int) (a1 : Int) : Option (Bool) := deliberationnet_In.l0 k l0 a1 0
set_option maxHeartbeats 8000000 in
set_option maxRecDepth 100000 in
theorem deliberationnet_In.calls (k : Nat) (A0 : Option Addr) (c0 : Nat) (l0 : List Int) (a1 : Int) (r : Bool) (w : World) (hr0 : Kd.C (Kd.int .i64) w A0 l0.length l0) (hc0 : l0.length ≤ c0) (h : deliberationnet_In.f k l0 a1 = some r) :
 Calls Tryd.prog 34 #[.slice A0 l0.length c0, .int .i64 a1] w fun e w' => e = .returned (.bool r) ∧ Drawn0 w w' := by
 have HR0 := Aside0.mk hr0; have HC0 := Aside0.mk hc0; clear hr0 hc0; have H : (deliberationnet_In.l0 k l0 a1 0) = some r := h; clear h; have H' := Aside0.mk H; clear H; go_enter Tryd.func34, Tryd.ntmps34; go_wp2; go_loopg [5] k (fun kq v5 w' => ∃ (x5_1 : Int), v5 = .int .i64 x5_1 ∧ Aside0 (deliberationnet_In.l0 kq l0 a1 x5_1 = some r) ∧ Aside0 (kq ≤ k) ∧ Drawn0 w w')
 case atStart => exact ⟨(0), zv, H', ⟨Nat.le_refl _⟩, by repeat (first | exact Drawn0.refl _ | apply Drawn0.step)⟩
 case round =>
  clear H'; try clear p2
  obtain ⟨x5_1, rfl, HA, HK1, ⟨m1, rfl⟩⟩ := hrel; cases gk with
  | zero => exact absurd HA.out (by simp [deliberationnet_In.l0])
  | succ k1 =>
   have H := HA.out; clear HA; simp only [deliberationnet_In.l0] at H; by_cases c3 : x5_1 < (l0.length : Int)
   · rw [if_pos c3] at H; have c3b0 : decide (x5_1 < (l0.length : Int)) = true := decide_eq_true c3; clear c3; by_cases c4 : 0 ≤ x5_1
     · rw [if_pos c4] at H; have c4b0 : decide (0 ≤ x5_1) = true := decide_eq_true c4; clear c4; by_cases c5 : (rd l0 x5_1) = a1
       · rw [if_pos c5] at H; have c5b0 : ((rd l0 x5_1) == a1) = true := beq_iff_eq.mpr c5; have c5b1 : ((rd l0 x5_1) != a1) = false := bne_eq_false_iff_eq.mpr c5; clear c5; obtain rfl := Option.some.inj H; have p354 : 0 ≤ (x5_1 : Int) := of_decide_eq_true (by first | (with_reducible assumption) | assumption); have q354 : x5_1 < (l0.length : Int) := of_decide_eq_true (by first | (with_reducible assumption) | assumption); obtain ⟨ad354, e354, hx354_0⟩ := Kd.at_int HR0.out x5_1 p354 q354; cases e354; replace p354 := eq_true p354; replace q354 := eq_true q354; go_wp2; go_ret; exact ⟨by first | rfl | (simp; done) | (simp [*]; done), by repeat (first | exact Drawn0.refl _ | apply Drawn0.step)⟩
       · rw [if_neg c5] at H; have c5b0 : ((rd l0 x5_1) == a1) = false := beq_eq_false_iff_ne.mpr c5; have c5b1 : ((rd l0 x5_1) != a1) = true := bne_iff_ne.mpr c5; have H' := Aside0.mk H; clear H; have p354 : 0 ≤ (x5_1 : Int) := of_decide_eq_true (by first | (with_reducible assumption) | assumption); have q354 : x5_1 < (l0.length : Int) := of_decide_eq_true (by first | (with_reducible assumption) | assumption); obtain ⟨ad354, e354, hx354_0⟩ := Kd.at_int HR0.out x5_1 p354 q354; cases e354; replace p354 := eq_true p354; replace q354 := eq_true q354; go_wp2; go_roundg k1
         case measure => have := HK1.out; omega
         case rel => exact ⟨(wrap64 (x5_1 + 1)), zv, H', ⟨by have := HK1.out; omega⟩, by repeat (first | exact Drawn0.refl _ | apply Drawn0.step)⟩
     · rw [if_neg c4] at H; exact absurd H (by simp)
   · rw [if_neg c3] at H; have c3b0 : decide (x5_1 < (l0.length : Int)) = false := decide_eq_false c3; clear c3; obtain rfl := Option.some.inj H; go_wp2; go_ret; exact ⟨by first | rfl | (simp; done) | (simp [*]; done), by repeat (first | exact Drawn0.refl _ | apply Drawn0.step)⟩
end Go.Proofs.YtjmdlmogdbhdhaaDoor.P
namespace Go.Proofs.YtjmdlmogdbhdhaaDoor.P
open Go.RowKit Go.Proofs.YtjmdlmogdbhdhaaDoorW.PrintWords Go.Proofs.YtjmdlmogdbhdhaaDoorW.PrintLast Go.Proofs.YtjmdlmogdbhdhaaDoorW.PrintMore
attribute [local go_sem] max2_int min2_int max_two min_two max_three min_three max_four min_four
set_option linter.unusedVariables false
set_option linter.unusedSimpArgs false
def deliberationnet_Has.l0 : Nat → Int → Int → Int → Int → List (S42) → Option (Bool)
 | 0, _, _, _, _, _ => none
 | k + 1, x1, x2, x7, x401000, x401001 => if x7 < (x401001.length : Int) then (if 0 ≤ x7 then (if ((rd_T42 x401001 x7).f0) = x1 then (if ((rd_T42 x401001 x7).f1) = x2 then (some true) else (deliberationnet_Has.l0 k x1 x2 (wrap64 (x7 + 1)) x401000 x401001)) else (deliberationnet_Has.l0 k x1 x2 (wrap64 (x7 + 1)) x401000 x401001)) else (none)) else (some false)
def deliberationnet_Has.f (k : Nat) (a0_0 : Int) (l0_1 : List (S42)) (a1 : Int) (a2 : Int) : Option (Bool) := deliberationnet_Has.l0 k a1 a2 0 a0_0 l0_1
set_option maxHeartbeats 8000000 in
set_option maxRecDepth 100000 in
theorem deliberationnet_Has.calls (k : Nat) (a0_0 : Int) (A0_1 : Option Addr) (c0_1 : Nat) (l0_1 : List (S42)) (a1 : Int) (a2 : Int) (r : Bool) (w : World) (hr0_1 : Kd.C k42 w A0_1 l0_1.length l0_1) (hc0_1 : l0_1.length ≤ c0_1) (h : deliberationnet_Has.f k a0_0 l0_1 a1 a2 = some r) :
 Calls Tryd.prog 62 #[.agg #[.int .i64 a0_0, .slice A0_1 l0_1.length c0_1], .int .i64 a1, .int .i64 a2] w fun e w' => e = .returned (.bool r) ∧ Below w.heap.size w w' := by
 have hu24 := Tryd.underlying24; have HR0_1 := Aside0.mk hr0_1; have HC0_1 := Aside0.mk hc0_1; clear hr0_1 hc0_1; have HB := Aside0.mk (Below.refl w.heap.size w); have H : (deliberationnet_Has.l0 k a1 a2 0 a0_0 l0_1) = some r := h; clear h; have H' := Aside0.mk H; clear H; go_enter Tryd.func62, Tryd.ntmps62; go_wp2_with (first | ((with_reducible refine gate_dst (N := 3) rfl ?_); refine zX (N := 3) (cs := #[.int .i64 a0_0, .slice A0_1 l0_1.length c0_1]) (t := 24) ?_; intro gb400 hg w4 hbox hb; have BK400 := Aside0.mk (hbox); have GW400 := Aside0.mk (zW hg HB); have GE400 := Aside0.mk (zW hg HB); replace HB := Aside0.mk (below_step (zB HB) hb); clear hb hbox hg)); go_loopg [7] k (fun kq v7 w' => ∃ (x7_1 : Int), v7 = .int .i64 x7_1 ∧ Aside0 (deliberationnet_Has.l0 kq a1 a2 x7_1 a0_0 l0_1 = some r) ∧ Aside0 (kq ≤ k) ∧ Aside0 (w'.heap[gb400]? = some (.cells #[.int .i64 a0_0, (.slice A0_1 l0_1.length c0_1)] 24 (0, 0))) ∧ Aside0 (Below w.heap.size w w'))
 case atStart => exact ⟨(0), zv, H', ⟨Nat.le_refl _⟩, ⟨zK BK400⟩, ⟨zB HB⟩⟩
 case round =>
  clear H'; try clear p2
  obtain ⟨x7_1, rfl, HA, HK1, BK400, HB⟩ := hrel; cases gk with
  | zero => exact absurd HA.out (by simp [deliberationnet_Has.l0])
  | succ k1 =>
   have H := HA.out; clear HA; simp only [deliberationnet_Has.l0] at H; by_cases c5 : x7_1 < (l0_1.length : Int)
   · rw [if_pos c5] at H; have c5b0 : decide (x7_1 < (l0_1.length : Int)) = true := decide_eq_true c5; clear c5; by_cases c6 : 0 ≤ x7_1
     · rw [if_pos c6] at H; have c6b0 : decide (0 ≤ x7_1) = true := decide_eq_true c6; clear c6; by_cases c7 : ((rd_T42 l0_1 x7_1).f0) = a1
       · rw [if_pos c7] at H; have c7b0 : (((rd_T42 l0_1 x7_1).f0) == a1) = true := beq_iff_eq.mpr c7; have c7b1 : (((rd_T42 l0_1 x7_1).f0) != a1) = false := bne_eq_false_iff_eq.mpr c7; clear c7; by_cases c8 : ((rd_T42 l0_1 x7_1).f1) = a2
         · rw [if_pos c8] at H; have c8b0 : (((rd_T42 l0_1 x7_1).f1) == a2) = true := beq_iff_eq.mpr c8; have c8b1 : (((rd_T42 l0_1 x7_1).f1) != a2) = false := bne_eq_false_iff_eq.mpr c8; clear c8; obtain rfl := Option.some.inj H; have hcz9_0 := zc BK400 0; have hcz9_1 := zc BK400 1; have hfz9_0 := blk_frozen BK400.out 0; have hfz9_1 := blk_frozen BK400.out 1; have p401 : 0 ≤ (x7_1 : Int) := of_decide_eq_true (by first | (with_reducible assumption) | assumption); have q401 : x7_1 < (l0_1.length : Int) := of_decide_eq_true (by first | (with_reducible assumption) | assumption); obtain ⟨ad401, e401, hx401_0, hx401_1⟩ := at_T42 HR0_1.out x7_1 p401 q401; cases e401; replace hx401_0 := (HB.out.cell (World.block_lt_of_cell? w _ hx401_0)).trans hx401_0; replace hx401_1 := (HB.out.cell (World.block_lt_of_cell? w _ hx401_1)).trans hx401_1; replace p401 := eq_true p401; replace q401 := eq_true q401; have p402 : 0 ≤ (x7_1 : Int) := of_decide_eq_true (by first | (with_reducible assumption) | assumption); have q402 : x7_1 < (l0_1.length : Int) := of_decide_eq_true (by first | (with_reducible assumption) | assumption); obtain ⟨ad402, e402, hx402_0, hx402_1⟩ := at_T42 HR0_1.out x7_1 p402 q402; obtain rfl : ad401 = ad402 := (by injection e402); replace hx402_0 := (HB.out.cell (World.block_lt_of_cell? w _ hx402_0)).trans hx402_0; replace hx402_1 := (HB.out.cell (World.block_lt_of_cell? w _ hx402_1)).trans hx402_1; replace p402 := eq_true p402; replace q402 := eq_true q402; go_wp2; go_ret; exact ⟨by first | rfl | (simp [errW_none, errW_some] <;> rfl) | (simp [*, errW_none, errW_some] <;> rfl), zB HB⟩
         · rw [if_neg c8] at H; have c8b0 : (((rd_T42 l0_1 x7_1).f1) == a2) = false := beq_eq_false_iff_ne.mpr c8; have c8b1 : (((rd_T42 l0_1 x7_1).f1) != a2) = true := bne_iff_ne.mpr c8; have H' := Aside0.mk H; clear H; have hcz10_0 := zc BK400 0; have hcz10_1 := zc BK400 1; have hfz10_0 := blk_frozen BK400.out 0; have hfz10_1 := blk_frozen BK400.out 1; have p401 : 0 ≤ (x7_1 : Int) := of_decide_eq_true (by first | (with_reducible assumption) | assumption); have q401 : x7_1 < (l0_1.length : Int) := of_decide_eq_true (by first | (with_reducible assumption) | assumption); obtain ⟨ad401, e401, hx401_0, hx401_1⟩ := at_T42 HR0_1.out x7_1 p401 q401; cases e401; replace hx401_0 := (HB.out.cell (World.block_lt_of_cell? w _ hx401_0)).trans hx401_0; replace hx401_1 := (HB.out.cell (World.block_lt_of_cell? w _ hx401_1)).trans hx401_1; replace p401 := eq_true p401; replace q401 := eq_true q401; have p402 : 0 ≤ (x7_1 : Int) := of_decide_eq_true (by first | (with_reducible assumption) | assumption); have q402 : x7_1 < (l0_1.length : Int) := of_decide_eq_true (by first | (with_reducible assumption) | assumption); obtain ⟨ad402, e402, hx402_0, hx402_1⟩ := at_T42 HR0_1.out x7_1 p402 q402; obtain rfl : ad401 = ad402 := (by injection e402); replace hx402_0 := (HB.out.cell (World.block_lt_of_cell? w _ hx402_0)).trans hx402_0; replace hx402_1 := (HB.out.cell (World.block_lt_of_cell? w _ hx402_1)).trans hx402_1; replace p402 := eq_true p402; replace q402 := eq_true q402; go_wp2; go_roundg k1
           case measure => have := HK1.out; omega
           case rel => exact ⟨(wrap64 (x7_1 + 1)), zv, H', ⟨by have := HK1.out; omega⟩, ⟨zK BK400⟩, ⟨zB HB⟩⟩
       · rw [if_neg c7] at H; have c7b0 : (((rd_T42 l0_1 x7_1).f0) == a1) = false := beq_eq_false_iff_ne.mpr c7; have c7b1 : (((rd_T42 l0_1 x7_1).f0) != a1) = true := bne_iff_ne.mpr c7; have H' := Aside0.mk H; clear H; have hcz11_0 := zc BK400 0; have hcz11_1 := zc BK400 1; have hfz11_0 := blk_frozen BK400.out 0; have hfz11_1 := blk_frozen BK400.out 1; have p401 : 0 ≤ (x7_1 : Int) := of_decide_eq_true (by first | (with_reducible assumption) | assumption); have q401 : x7_1 < (l0_1.length : Int) := of_decide_eq_true (by first | (with_reducible assumption) | assumption); obtain ⟨ad401, e401, hx401_0, hx401_1⟩ := at_T42 HR0_1.out x7_1 p401 q401; cases e401; replace hx401_0 := (HB.out.cell (World.block_lt_of_cell? w _ hx401_0)).trans hx401_0; replace hx401_1 := (HB.out.cell (World.block_lt_of_cell? w _ hx401_1)).trans hx401_1; replace p401 := eq_true p401; replace q401 := eq_true q401; go_wp2; go_roundg k1
         case measure => have := HK1.out; omega
         case rel => exact ⟨(wrap64 (x7_1 + 1)), zv, H', ⟨by have := HK1.out; omega⟩, ⟨zK BK400⟩, ⟨zB HB⟩⟩
     · rw [if_neg c6] at H; exact absurd H (by simp)
   · rw [if_neg c5] at H; have c5b0 : decide (x7_1 < (l0_1.length : Int)) = false := decide_eq_false c5; clear c5; obtain rfl := Option.some.inj H; have hcz12_0 := zc BK400 0; have hcz12_1 := zc BK400 1; have hfz12_0 := blk_frozen BK400.out 0; have hfz12_1 := blk_frozen BK400.out 1; go_wp2; go_ret; exact ⟨by first | rfl | (simp [errW_none, errW_some] <;> rfl) | (simp [*, errW_none, errW_some] <;> rfl), zB HB⟩
end Go.Proofs.YtjmdlmogdbhdhaaDoor.P
namespace Go.Proofs.YtjmdlmogdbhdhaaDoor.P
open Go.RowKit Go.Proofs.YtjmdlmogdbhdhaaDoorW.PrintWords Go.Proofs.YtjmdlmogdbhdhaaDoorW.PrintLast Go.Proofs.YtjmdlmogdbhdhaaDoorW.PrintMore
attribute [local go_sem] max2_int min2_int max_two min_two max_three min_three max_four min_four
set_option linter.unusedVariables false
set_option linter.unusedSimpArgs false
def deliberationnet_Attacked.l0 : Nat → List Int → Int → Int → Int → List (S42) → Option (Bool)
 | 0, _, _, _, _, _ => none
 | k + 1, x1, x2, x7, x404000, x404001 => if x7 < (x1.length : Int) then (if 0 ≤ x7 then ((deliberationnet_Has.f k x404000 x404001 (rd x1 x7) x2).bind fun t405 => (if t405 = true then (some true) else (deliberationnet_Attacked.l0 k x1 x2 (wrap64 (x7 + 1)) x404000 x404001))) else (none)) else (some false)
def deliberationnet_Attacked.f (k : Nat) (a0_0 : Int) (l0_1 : List (S42)) (l1 : List Int) (a2 : Int) : Option (Bool) := deliberationnet_Attacked.l0 k l1 a2 0 a0_0 l0_1
set_option maxHeartbeats 8000000 in
set_option maxRecDepth 100000 in
theorem deliberationnet_Attacked.calls (k : Nat) (a0_0 : Int) (A0_1 : Option Addr) (c0_1 : Nat) (l0_1 : List (S42)) (A1 : Option Addr) (c1 : Nat) (l1 : List Int) (a2 : Int) (r : Bool) (w : World) (hr0_1 : Kd.C k42 w A0_1 l0_1.length l0_1) (hc0_1 : l0_1.length ≤ c0_1) (hr1 : Kd.C (Kd.int .i64) w A1 l1.length l1) (hc1 : l1.length ≤ c1) (h : deliberationnet_Attacked.f k a0_0 l0_1 l1 a2 = some r) :
 Calls Tryd.prog 63 #[.agg #[.int .i64 a0_0, .slice A0_1 l0_1.length c0_1], .slice A1 l1.length c1, .int .i64 a2] w fun e w' => e = .returned (.bool r) ∧ Below w.heap.size w w' := by
 have hu24 := Tryd.underlying24; have HR0_1 := Aside0.mk hr0_1; have HC0_1 := Aside0.mk hc0_1; clear hr0_1 hc0_1; have HR1 := Aside0.mk hr1; have HC1 := Aside0.mk hc1; clear hr1 hc1; have HB := Aside0.mk (Below.refl w.heap.size w); have H : (deliberationnet_Attacked.l0 k l1 a2 0 a0_0 l0_1) = some r := h; clear h; have H' := Aside0.mk H; clear H; go_enter Tryd.func63, Tryd.ntmps63; go_wp2_with (first | ((with_reducible refine gate_dst (N := 3) rfl ?_); refine zX (N := 3) (cs := #[.int .i64 a0_0, .slice A0_1 l0_1.length c0_1]) (t := 24) ?_; intro gb403 hg w4 hbox hb; have BK403 := Aside0.mk (hbox); have GW403 := Aside0.mk (zW hg HB); have GE403 := Aside0.mk (zW hg HB); replace HB := Aside0.mk (below_step (zB HB) hb); clear hb hbox hg)); go_loopg [7] k (fun kq v7 w' => ∃ (x7_1 : Int), v7 = .int .i64 x7_1 ∧ Aside0 (deliberationnet_Attacked.l0 kq l1 a2 x7_1 a0_0 l0_1 = some r) ∧ Aside0 (kq ≤ k) ∧ Aside0 (w'.heap[gb403]? = some (.cells #[.int .i64 a0_0, (.slice A0_1 l0_1.length c0_1)] 24 (0, 0))) ∧ Aside0 (Below w.heap.size w w'))
 case atStart => exact ⟨(0), zv, H', ⟨Nat.le_refl _⟩, ⟨zK BK403⟩, ⟨zB HB⟩⟩
 case round =>
  clear H'; try clear c1
  try clear p2
  obtain ⟨x7_1, rfl, HA, HK1, BK403, HB⟩ := hrel; cases gk with
  | zero => exact absurd HA.out (by simp [deliberationnet_Attacked.l0])
  | succ k1 =>
   have H := HA.out; clear HA; simp only [deliberationnet_Attacked.l0] at H; by_cases c5 : x7_1 < (l1.length : Int)
   · rw [if_pos c5] at H; have c5b0 : decide (x7_1 < (l1.length : Int)) = true := decide_eq_true c5; clear c5; by_cases c6 : 0 ≤ x7_1
     · rw [if_pos c6] at H; have c6b0 : decide (0 ≤ x7_1) = true := decide_eq_true c6; clear c6; replace H := Option.bind_eq_some_iff.mp H; obtain ⟨t405, A70, H⟩ := H; replace H : (if t405 = true then (some true) else (deliberationnet_Attacked.l0 k1 l1 a2 (wrap64 (x7_1 + 1)) a0_0 l0_1)) = some r := H; have A7 := Aside0.mk A70; clear A70; by_cases c8 : t405 = true
       · subst c8; have H1 : (some true) = some r := by rw [if_pos rfl] at H; exact H
         clear H; have H := H1; clear H1; obtain rfl := Option.some.inj H; try go_wp2
         replace BK403 := Aside0.mk (blk_drew BK403.out); replace HB := Aside0.mk (below_drew1 HB.out); have p404 : 0 ≤ (x7_1 : Int) := of_decide_eq_true (by first | (with_reducible assumption) | assumption); have q404 : x7_1 < (l1.length : Int) := of_decide_eq_true (by first | (with_reducible assumption) | assumption); obtain ⟨ad404, e404, hx404_0⟩ := Kd.at_int HR1.out x7_1 p404 q404; have hw404_0 := hx404_0; cases e404; replace hx404_0 := (HB.out.cell (World.block_lt_of_cell? w _ hx404_0)).trans hx404_0; replace p404 := eq_true p404; replace q404 := eq_true q404; refine start_ (n := 7) (S := fun w' => w'.cell? ⟨gb403, 0, none⟩ = some (.int .i64 a0_0) ∧ w'.cell? ⟨gb403, 1, none⟩ = some (.slice A0_1 l0_1.length c0_1) ∧ w'.cell? (ad404.add (x7_1).toNat) = some (.int .i64 (rd l1 x7_1))) (ds := []) #[false, false, false, false, false, false, false] (by kernel_rfl) rfl rfl ⟨(blk_cell BK403.out 0).trans rfl, (blk_cell BK403.out 1).trans rfl, ((HB.out.cell (World.block_lt_of_cell? w _ hw404_0)).trans hw404_0)⟩ (fun hHeld => ?_); generalize wr.drew = w9 at BK403 HB hx404_0 hHeld ⊢; refine pure_ (i := 1) (N := some 15) (v := ?_) (a' := ?_) #[false, true, false, false, false, false, false] rfl rfl (by kernel_rfl) (fun _ _ _ h => h) (Or.inl ⟨by rfl, ?_⟩) ?_ ?_; rotate_left; · intro w'; go_simp; with_reducible rfl
         rotate_left; · simp only [Act.put, List.setIfInBounds_toArray, List.set_cons_zero, List.set_cons_succ, i64_w, i32_w]; rfl
         refine pure_ (i := 2) (N := some 16) (v := ?_) (a' := ?_) #[false, true, true, false, false, false, false] rfl rfl (by kernel_rfl) (fun _ _ _ h => h) (Or.inl ⟨by rfl, ?_⟩) ?_ ?_; rotate_left; · intro w'; go_simp; with_reducible rfl
         rotate_left; · simp only [Act.put, List.setIfInBounds_toArray, List.set_cons_zero, List.set_cons_succ, i64_w, i32_w]; rfl
         refine pure_ (i := 3) (N := some 17) (v := ?_) (a' := ?_) #[false, true, true, true, false, false, false] rfl rfl (by kernel_rfl) (fun _ _ _ h => h) (Or.inl ⟨by rfl, ?_⟩) ?_ ?_; rotate_left; · intro w'; go_simp; with_reducible rfl
         rotate_left; · simp only [Act.put, List.setIfInBounds_toArray, List.set_cons_zero, List.set_cons_succ, i64_w, i32_w]; rfl
         refine pure_ (i := 5) (N := some 19) (v := ?_) (a' := ?_) #[false, true, true, true, false, true, false] rfl rfl (by kernel_rfl) (fun _ _ _ h => h) (Or.inl ⟨by rfl, ?_⟩) ?_ ?_; rotate_left; · intro w'; go_simp; with_reducible rfl
         rotate_left; · simp only [Act.put, List.setIfInBounds_toArray, List.set_cons_zero, List.set_cons_succ, i64_w, i32_w]; rfl
         refine take_ (i := 0) (N := some 14) (v := ?_) (a' := ?_) #[true, true, true, true, false, true, false] rfl rfl (by kernel_rfl) (fun _ _ _ h => h) (Or.inl ⟨by rfl, ?_⟩) hHeld ?_ ?_; rotate_left; · rintro w' ⟨s0, s1, s2⟩; go_simp; with_reducible rfl
         rotate_left; · simp only [Act.put, List.setIfInBounds_toArray, List.set_cons_zero, List.set_cons_succ, i64_w, i32_w]; rfl
         refine take_ (i := 4) (N := some 18) (v := ?_) (a' := ?_) #[true, true, true, true, true, true, false] rfl rfl (by kernel_rfl) (fun _ _ _ h => h) (Or.inl ⟨by rfl, ?_⟩) hHeld ?_ ?_; rotate_left; · rintro w' ⟨s0, s1, s2⟩; go_simp; with_reducible rfl
         rotate_left; · simp only [Act.put, List.setIfInBounds_toArray, List.set_cons_zero, List.set_cons_succ, i64_w, i32_w]; rfl
         refine one_ (i := 6) (N := some 20) #[true, true, true, true, true, true, true] rfl rfl (by kernel_rfl) (by decide) (fun K hK => ?_); refine goes_ Tryd.func62 (by kernel_rfl) rfl #[.agg #[.int .i64 a0_0, .slice A0_1 l0_1.length c0_1], .int .i64 (rd l1 x7_1), .int .i64 a2] (by rfl) rfl rfl (by (try simp only [List.map_toArray, List.map_cons, List.map_nil]); first | done | rfl | (simp only [List.length_drop, List.length_take]; rfl)) ?_; with_reducible refine (deliberationnet_Has.calls k1 a0_0 _ _ l0_1 (rd l1 x7_1) a2 true _ ?side1 ?side2 A7.out).mono ?_
         (case side1 => exact zCb HR0_1 HB); (case side2 => exact HC0_1.out); rintro e w10 ⟨rfl, hb⟩; refine ⟨_, rfl, ?_⟩; replace BK403 := Aside0.mk (zKb BK403 hb); replace HB := Aside0.mk (below_step (zB HB) hb); (try clear hb); (try clear hb2); (try clear hk); (try clear hi); refine hK.out _ _ ⟨(blk_cell BK403.out 0).trans rfl, (blk_cell BK403.out 1).trans rfl, ((HB.out.cell (World.block_lt_of_cell? w _ hw404_0)).trans hw404_0)⟩ (fun hHeld => ?_); clear hK K; refine znn 20 ?_; refine done_ (by kernel_rfl) ?_; try go_wp2
         go_ret; exact ⟨by first | rfl | (simp [errW_none, errW_some] <;> rfl) | (simp [*, errW_none, errW_some] <;> rfl), zB HB⟩
       · replace c8 := Bool.eq_false_iff.mpr c8; subst c8; have H1 : (deliberationnet_Attacked.l0 k1 l1 a2 (wrap64 (x7_1 + 1)) a0_0 l0_1) = some r := by rw [if_neg (show ¬ (false = true) by decide)] at H; exact H
         clear H; have H := H1; clear H1; have H' := Aside0.mk H; clear H; try go_wp2
         replace BK403 := Aside0.mk (blk_drew BK403.out); replace HB := Aside0.mk (below_drew1 HB.out); have p404 : 0 ≤ (x7_1 : Int) := of_decide_eq_true (by first | (with_reducible assumption) | assumption); have q404 : x7_1 < (l1.length : Int) := of_decide_eq_true (by first | (with_reducible assumption) | assumption); obtain ⟨ad404, e404, hx404_0⟩ := Kd.at_int HR1.out x7_1 p404 q404; have hw404_0 := hx404_0; cases e404; replace hx404_0 := (HB.out.cell (World.block_lt_of_cell? w _ hx404_0)).trans hx404_0; replace p404 := eq_true p404; replace q404 := eq_true q404; refine start_ (n := 7) (S := fun w' => w'.cell? ⟨gb403, 0, none⟩ = some (.int .i64 a0_0) ∧ w'.cell? ⟨gb403, 1, none⟩ = some (.slice A0_1 l0_1.length c0_1) ∧ w'.cell? (ad404.add (x7_1).toNat) = some (.int .i64 (rd l1 x7_1))) (ds := []) #[false, false, false, false, false, false, false] (by kernel_rfl) rfl rfl ⟨(blk_cell BK403.out 0).trans rfl, (blk_cell BK403.out 1).trans rfl, ((HB.out.cell (World.block_lt_of_cell? w _ hw404_0)).trans hw404_0)⟩ (fun hHeld => ?_); generalize wr.drew = w11 at BK403 HB hx404_0 hHeld ⊢; refine pure_ (i := 1) (N := some 15) (v := ?_) (a' := ?_) #[false, true, false, false, false, false, false] rfl rfl (by kernel_rfl) (fun _ _ _ h => h) (Or.inl ⟨by rfl, ?_⟩) ?_ ?_; rotate_left; · intro w'; go_simp; with_reducible rfl
         rotate_left; · simp only [Act.put, List.setIfInBounds_toArray, List.set_cons_zero, List.set_cons_succ, i64_w, i32_w]; rfl
         refine pure_ (i := 2) (N := some 16) (v := ?_) (a' := ?_) #[false, true, true, false, false, false, false] rfl rfl (by kernel_rfl) (fun _ _ _ h => h) (Or.inl ⟨by rfl, ?_⟩) ?_ ?_; rotate_left; · intro w'; go_simp; with_reducible rfl
         rotate_left; · simp only [Act.put, List.setIfInBounds_toArray, List.set_cons_zero, List.set_cons_succ, i64_w, i32_w]; rfl
         refine pure_ (i := 3) (N := some 17) (v := ?_) (a' := ?_) #[false, true, true, true, false, false, false] rfl rfl (by kernel_rfl) (fun _ _ _ h => h) (Or.inl ⟨by rfl, ?_⟩) ?_ ?_; rotate_left; · intro w'; go_simp; with_reducible rfl
         rotate_left; · simp only [Act.put, List.setIfInBounds_toArray, List.set_cons_zero, List.set_cons_succ, i64_w, i32_w]; rfl
         refine pure_ (i := 5) (N := some 19) (v := ?_) (a' := ?_) #[false, true, true, true, false, true, false] rfl rfl (by kernel_rfl) (fun _ _ _ h => h) (Or.inl ⟨by rfl, ?_⟩) ?_ ?_; rotate_left; · intro w'; go_simp; with_reducible rfl
         rotate_left; · simp only [Act.put, List.setIfInBounds_toArray, List.set_cons_zero, List.set_cons_succ, i64_w, i32_w]; rfl
         refine take_ (i := 0) (N := some 14) (v := ?_) (a' := ?_) #[true, true, true, true, false, true, false] rfl rfl (by kernel_rfl) (fun _ _ _ h => h) (Or.inl ⟨by rfl, ?_⟩) hHeld ?_ ?_; rotate_left; · rintro w' ⟨s0, s1, s2⟩; go_simp; with_reducible rfl
         rotate_left; · simp only [Act.put, List.setIfInBounds_toArray, List.set_cons_zero, List.set_cons_succ, i64_w, i32_w]; rfl
         refine take_ (i := 4) (N := some 18) (v := ?_) (a' := ?_) #[true, true, true, true, true, true, false] rfl rfl (by kernel_rfl) (fun _ _ _ h => h) (Or.inl ⟨by rfl, ?_⟩) hHeld ?_ ?_; rotate_left; · rintro w' ⟨s0, s1, s2⟩; go_simp; with_reducible rfl
         rotate_left; · simp only [Act.put, List.setIfInBounds_toArray, List.set_cons_zero, List.set_cons_succ, i64_w, i32_w]; rfl
         refine one_ (i := 6) (N := some 20) #[true, true, true, true, true, true, true] rfl rfl (by kernel_rfl) (by decide) (fun K hK => ?_); refine goes_ Tryd.func62 (by kernel_rfl) rfl #[.agg #[.int .i64 a0_0, .slice A0_1 l0_1.length c0_1], .int .i64 (rd l1 x7_1), .int .i64 a2] (by rfl) rfl rfl (by (try simp only [List.map_toArray, List.map_cons, List.map_nil]); first | done | rfl | (simp only [List.length_drop, List.length_take]; rfl)) ?_; with_reducible refine (deliberationnet_Has.calls k1 a0_0 _ _ l0_1 (rd l1 x7_1) a2 false _ ?side1 ?side2 A7.out).mono ?_
         (case side1 => exact zCb HR0_1 HB); (case side2 => exact HC0_1.out); rintro e w12 ⟨rfl, hb⟩; refine ⟨_, rfl, ?_⟩; replace BK403 := Aside0.mk (zKb BK403 hb); replace HB := Aside0.mk (below_step (zB HB) hb); (try clear hb); (try clear hb2); (try clear hk); (try clear hi); refine hK.out _ _ ⟨(blk_cell BK403.out 0).trans rfl, (blk_cell BK403.out 1).trans rfl, ((HB.out.cell (World.block_lt_of_cell? w _ hw404_0)).trans hw404_0)⟩ (fun hHeld => ?_); clear hK K; refine znn 20 ?_; refine done_ (by kernel_rfl) ?_; try go_wp2
         go_roundg k1
         case measure => have := HK1.out; omega
         case rel => exact ⟨(wrap64 (x7_1 + 1)), zv, H', ⟨by have := HK1.out; omega⟩, ⟨zK BK403⟩, ⟨zB HB⟩⟩
     · rw [if_neg c6] at H; exact absurd H (by simp)
   · rw [if_neg c5] at H; have c5b0 : decide (x7_1 < (l1.length : Int)) = false := decide_eq_false c5; clear c5; obtain rfl := Option.some.inj H; go_wp2; go_ret; exact ⟨by first | rfl | (simp [errW_none, errW_some] <;> rfl) | (simp [*, errW_none, errW_some] <;> rfl), zB HB⟩
end Go.Proofs.YtjmdlmogdbhdhaaDoor.P
namespace Go.Proofs.YtjmdlmogdbhdhaaDoor.P
open Go.RowKit Go.Proofs.YtjmdlmogdbhdhaaDoorW.PrintWords Go.Proofs.YtjmdlmogdbhdhaaDoorW.PrintLast Go.Proofs.YtjmdlmogdbhdhaaDoorW.PrintMore
attribute [local go_sem] max2_int min2_int max_two min_two max_three min_three max_four min_four
set_option linter.unusedVariables false
set_option linter.unusedSimpArgs false
def deliberationnet_Free.l0 : Nat → List Int → Int → Int → List (S42) → Option (Bool)
 | 0, _, _, _, _ => none
 | k + 1, x1, x5, x493000, x493001 => if x5 < (x1.length : Int) then (if 0 ≤ x5 then ((deliberationnet_Attacked.f k x493000 x493001 x1 (rd x1 x5)).bind fun t494 => (if t494 = true then (some false) else (deliberationnet_Free.l0 k x1 (wrap64 (x5 + 1)) x493000 x493001))) else (none)) else (some true)
def deliberationnet_Free.f (k : Nat) (a0_0 : Int) (l0_1 : List (S42)) (l1 : List Int) : Option (Bool) := deliberationnet_Free.l0 k l1 0 a0_0 l0_1
set_option maxHeartbeats 8000000 in
set_option maxRecDepth 100000 in
theorem deliberationnet_Free.calls (k : Nat) (a0_0 : Int) (A0_1 : Option Addr) (c0_1 : Nat) (l0_1 : List (S42)) (A1 : Option Addr) (c1 : Nat) (l1 : List Int) (r : Bool) (w : World) (hr0_1 : Kd.C k42 w A0_1 l0_1.length l0_1) (hc0_1 : l0_1.length ≤ c0_1) (hr1 : Kd.C (Kd.int .i64) w A1 l1.length l1) (hc1 : l1.length ≤ c1) (h : deliberationnet_Free.f k a0_0 l0_1 l1 = some r) :
 Calls Tryd.prog 81 #[.agg #[.int .i64 a0_0, .slice A0_1 l0_1.length c0_1], .slice A1 l1.length c1] w fun e w' => e = .returned (.bool r) ∧ Below w.heap.size w w' := by
 have hu24 := Tryd.underlying24; have HR0_1 := Aside0.mk hr0_1; have HC0_1 := Aside0.mk hc0_1; clear hr0_1 hc0_1; have HR1 := Aside0.mk hr1; have HC1 := Aside0.mk hc1; clear hr1 hc1; have HB := Aside0.mk (Below.refl w.heap.size w); have H : (deliberationnet_Free.l0 k l1 0 a0_0 l0_1) = some r := h; clear h; have H' := Aside0.mk H; clear H; go_enter Tryd.func81, Tryd.ntmps81; go_wp2_with (first | ((with_reducible refine gate_dst (N := 2) rfl ?_); refine zX (N := 2) (cs := #[.int .i64 a0_0, .slice A0_1 l0_1.length c0_1]) (t := 24) ?_; intro gb492 hg w3 hbox hb; have BK492 := Aside0.mk (hbox); have GW492 := Aside0.mk (zW hg HB); have GE492 := Aside0.mk (zW hg HB); replace HB := Aside0.mk (below_step (zB HB) hb); clear hb hbox hg)); go_loopg [5] k (fun kq v5 w' => ∃ (x5_1 : Int), v5 = .int .i64 x5_1 ∧ Aside0 (deliberationnet_Free.l0 kq l1 x5_1 a0_0 l0_1 = some r) ∧ Aside0 (kq ≤ k) ∧ Aside0 (w'.heap[gb492]? = some (.cells #[.int .i64 a0_0, (.slice A0_1 l0_1.length c0_1)] 24 (0, 0))) ∧ Aside0 (Below w.heap.size w w'))
 case atStart => exact ⟨(0), zv, H', ⟨Nat.le_refl _⟩, ⟨zK BK492⟩, ⟨zB HB⟩⟩
 case round =>
  clear H'; try clear c1
  try clear p2
  obtain ⟨x5_1, rfl, HA, HK1, BK492, HB⟩ := hrel; cases gk with
  | zero => exact absurd HA.out (by simp [deliberationnet_Free.l0])
  | succ k1 =>
   have H := HA.out; clear HA; simp only [deliberationnet_Free.l0] at H; by_cases c4 : x5_1 < (l1.length : Int)
   · rw [if_pos c4] at H; have c4b0 : decide (x5_1 < (l1.length : Int)) = true := decide_eq_true c4; clear c4; by_cases c5 : 0 ≤ x5_1
     · rw [if_pos c5] at H; have c5b0 : decide (0 ≤ x5_1) = true := decide_eq_true c5; clear c5; replace H := Option.bind_eq_some_iff.mp H; obtain ⟨t494, A60, H⟩ := H; replace H : (if t494 = true then (some false) else (deliberationnet_Free.l0 k1 l1 (wrap64 (x5_1 + 1)) a0_0 l0_1)) = some r := H; have A6 := Aside0.mk A60; clear A60; by_cases c7 : t494 = true
       · subst c7; have H1 : (some false) = some r := by rw [if_pos rfl] at H; exact H
         clear H; have H := H1; clear H1; obtain rfl := Option.some.inj H; try go_wp2
         replace BK492 := Aside0.mk (blk_drew BK492.out); replace HB := Aside0.mk (below_drew1 HB.out); have p493 : 0 ≤ (x5_1 : Int) := of_decide_eq_true (by first | (with_reducible assumption) | assumption); have q493 : x5_1 < (l1.length : Int) := of_decide_eq_true (by first | (with_reducible assumption) | assumption); obtain ⟨ad493, e493, hx493_0⟩ := Kd.at_int HR1.out x5_1 p493 q493; have hw493_0 := hx493_0; cases e493; replace hx493_0 := (HB.out.cell (World.block_lt_of_cell? w _ hx493_0)).trans hx493_0; replace p493 := eq_true p493; replace q493 := eq_true q493; refine start_ (n := 7) (S := fun w' => w'.cell? ⟨gb492, 0, none⟩ = some (.int .i64 a0_0) ∧ w'.cell? ⟨gb492, 1, none⟩ = some (.slice A0_1 l0_1.length c0_1) ∧ w'.cell? (ad493.add (x5_1).toNat) = some (.int .i64 (rd l1 x5_1))) (ds := []) #[false, false, false, false, false, false, false] (by kernel_rfl) rfl rfl ⟨(blk_cell BK492.out 0).trans rfl, (blk_cell BK492.out 1).trans rfl, ((HB.out.cell (World.block_lt_of_cell? w _ hw493_0)).trans hw493_0)⟩ (fun hHeld => ?_); generalize wr.drew = w8 at BK492 HB hx493_0 hHeld ⊢; refine pure_ (i := 1) (N := some 13) (v := ?_) (a' := ?_) #[false, true, false, false, false, false, false] rfl rfl (by kernel_rfl) (fun _ _ _ h => h) (Or.inl ⟨by rfl, ?_⟩) ?_ ?_; rotate_left; · intro w'; go_simp; with_reducible rfl
         rotate_left; · simp only [Act.put, List.setIfInBounds_toArray, List.set_cons_zero, List.set_cons_succ, i64_w, i32_w]; rfl
         refine pure_ (i := 2) (N := some 14) (v := ?_) (a' := ?_) #[false, true, true, false, false, false, false] rfl rfl (by kernel_rfl) (fun _ _ _ h => h) (Or.inl ⟨by rfl, ?_⟩) ?_ ?_; rotate_left; · intro w'; go_simp; with_reducible rfl
         rotate_left; · simp only [Act.put, List.setIfInBounds_toArray, List.set_cons_zero, List.set_cons_succ, i64_w, i32_w]; rfl
         refine pure_ (i := 3) (N := some 15) (v := ?_) (a' := ?_) #[false, true, true, true, false, false, false] rfl rfl (by kernel_rfl) (fun _ _ _ h => h) (Or.inl ⟨by rfl, ?_⟩) ?_ ?_; rotate_left; · intro w'; go_simp; with_reducible rfl
         rotate_left; · simp only [Act.put, List.setIfInBounds_toArray, List.set_cons_zero, List.set_cons_succ, i64_w, i32_w]; rfl
         refine pure_ (i := 4) (N := some 16) (v := ?_) (a' := ?_) #[false, true, true, true, true, false, false] rfl rfl (by kernel_rfl) (fun _ _ _ h => h) (Or.inl ⟨by rfl, ?_⟩) ?_ ?_; rotate_left; · intro w'; go_simp; with_reducible rfl
         rotate_left; · simp only [Act.put, List.setIfInBounds_toArray, List.set_cons_zero, List.set_cons_succ, i64_w, i32_w]; rfl
         refine take_ (i := 0) (N := some 12) (v := ?_) (a' := ?_) #[true, true, true, true, true, false, false] rfl rfl (by kernel_rfl) (fun _ _ _ h => h) (Or.inl ⟨by rfl, ?_⟩) hHeld ?_ ?_; rotate_left; · rintro w' ⟨s0, s1, s2⟩; go_simp; with_reducible rfl
         rotate_left; · simp only [Act.put, List.setIfInBounds_toArray, List.set_cons_zero, List.set_cons_succ, i64_w, i32_w]; rfl
         refine take_ (i := 5) (N := some 17) (v := ?_) (a' := ?_) #[true, true, true, true, true, true, false] rfl rfl (by kernel_rfl) (fun _ _ _ h => h) (Or.inl ⟨by rfl, ?_⟩) hHeld ?_ ?_; rotate_left; · rintro w' ⟨s0, s1, s2⟩; go_simp; with_reducible rfl
         rotate_left; · simp only [Act.put, List.setIfInBounds_toArray, List.set_cons_zero, List.set_cons_succ, i64_w, i32_w]; rfl
         refine one_ (i := 6) (N := some 18) #[true, true, true, true, true, true, true] rfl rfl (by kernel_rfl) (by decide) (fun K hK => ?_); refine goes_ Tryd.func63 (by kernel_rfl) rfl #[.agg #[.int .i64 a0_0, .slice A0_1 l0_1.length c0_1], .slice (some ad493) l1.length c1, .int .i64 (rd l1 x5_1)] (by rfl) rfl rfl (by (try simp only [List.map_toArray, List.map_cons, List.map_nil]); first | done | rfl | (simp only [List.length_drop, List.length_take]; rfl)) ?_; with_reducible refine (deliberationnet_Attacked.calls k1 a0_0 _ _ l0_1 _ _ l1 (rd l1 x5_1) true _ ?side1 ?side2 ?side3 ?side4 A6.out).mono ?_
         (case side1 => exact zCb HR0_1 HB); (case side2 => exact HC0_1.out); (case side3 => exact zCb HR1 HB); (case side4 => exact HC1.out); rintro e w9 ⟨rfl, hb⟩; refine ⟨_, rfl, ?_⟩; replace BK492 := Aside0.mk (zKb BK492 hb); replace HB := Aside0.mk (below_step (zB HB) hb); (try clear hb); (try clear hb2); (try clear hk); (try clear hi); refine hK.out _ _ ⟨(blk_cell BK492.out 0).trans rfl, (blk_cell BK492.out 1).trans rfl, ((HB.out.cell (World.block_lt_of_cell? w _ hw493_0)).trans hw493_0)⟩ (fun hHeld => ?_); clear hK K; refine znn 18 ?_; refine done_ (by kernel_rfl) ?_; try go_wp2
         go_ret; exact ⟨by first | rfl | (simp [errW_none, errW_some] <;> rfl) | (simp [*, errW_none, errW_some] <;> rfl), zB HB⟩
       · replace c7 := Bool.eq_false_iff.mpr c7; subst c7; have H1 : (deliberationnet_Free.l0 k1 l1 (wrap64 (x5_1 + 1)) a0_0 l0_1) = some r := by rw [if_neg (show ¬ (false = true) by decide)] at H; exact H
         clear H; have H := H1; clear H1; have H' := Aside0.mk H; clear H; try go_wp2
         replace BK492 := Aside0.mk (blk_drew BK492.out); replace HB := Aside0.mk (below_drew1 HB.out); have p493 : 0 ≤ (x5_1 : Int) := of_decide_eq_true (by first | (with_reducible assumption) | assumption); have q493 : x5_1 < (l1.length : Int) := of_decide_eq_true (by first | (with_reducible assumption) | assumption); obtain ⟨ad493, e493, hx493_0⟩ := Kd.at_int HR1.out x5_1 p493 q493; have hw493_0 := hx493_0; cases e493; replace hx493_0 := (HB.out.cell (World.block_lt_of_cell? w _ hx493_0)).trans hx493_0; replace p493 := eq_true p493; replace q493 := eq_true q493; refine start_ (n := 7) (S := fun w' => w'.cell? ⟨gb492, 0, none⟩ = some (.int .i64 a0_0) ∧ w'.cell? ⟨gb492, 1, none⟩ = some (.slice A0_1 l0_1.length c0_1) ∧ w'.cell? (ad493.add (x5_1).toNat) = some (.int .i64 (rd l1 x5_1))) (ds := []) #[false, false, false, false, false, false, false] (by kernel_rfl) rfl rfl ⟨(blk_cell BK492.out 0).trans rfl, (blk_cell BK492.out 1).trans rfl, ((HB.out.cell (World.block_lt_of_cell? w _ hw493_0)).trans hw493_0)⟩ (fun hHeld => ?_); generalize wr.drew = w10 at BK492 HB hx493_0 hHeld ⊢; refine pure_ (i := 1) (N := some 13) (v := ?_) (a' := ?_) #[false, true, false, false, false, false, false] rfl rfl (by kernel_rfl) (fun _ _ _ h => h) (Or.inl ⟨by rfl, ?_⟩) ?_ ?_; rotate_left; · intro w'; go_simp; with_reducible rfl
         rotate_left; · simp only [Act.put, List.setIfInBounds_toArray, List.set_cons_zero, List.set_cons_succ, i64_w, i32_w]; rfl
         refine pure_ (i := 2) (N := some 14) (v := ?_) (a' := ?_) #[false, true, true, false, false, false, false] rfl rfl (by kernel_rfl) (fun _ _ _ h => h) (Or.inl ⟨by rfl, ?_⟩) ?_ ?_; rotate_left; · intro w'; go_simp; with_reducible rfl
         rotate_left; · simp only [Act.put, List.setIfInBounds_toArray, List.set_cons_zero, List.set_cons_succ, i64_w, i32_w]; rfl
         refine pure_ (i := 3) (N := some 15) (v := ?_) (a' := ?_) #[false, true, true, true, false, false, false] rfl rfl (by kernel_rfl) (fun _ _ _ h => h) (Or.inl ⟨by rfl, ?_⟩) ?_ ?_; rotate_left; · intro w'; go_simp; with_reducible rfl
         rotate_left; · simp only [Act.put, List.setIfInBounds_toArray, List.set_cons_zero, List.set_cons_succ, i64_w, i32_w]; rfl
         refine pure_ (i := 4) (N := some 16) (v := ?_) (a' := ?_) #[false, true, true, true, true, false, false] rfl rfl (by kernel_rfl) (fun _ _ _ h => h) (Or.inl ⟨by rfl, ?_⟩) ?_ ?_; rotate_left; · intro w'; go_simp; with_reducible rfl
         rotate_left; · simp only [Act.put, List.setIfInBounds_toArray, List.set_cons_zero, List.set_cons_succ, i64_w, i32_w]; rfl
         refine take_ (i := 0) (N := some 12) (v := ?_) (a' := ?_) #[true, true, true, true, true, false, false] rfl rfl (by kernel_rfl) (fun _ _ _ h => h) (Or.inl ⟨by rfl, ?_⟩) hHeld ?_ ?_; rotate_left; · rintro w' ⟨s0, s1, s2⟩; go_simp; with_reducible rfl
         rotate_left; · simp only [Act.put, List.setIfInBounds_toArray, List.set_cons_zero, List.set_cons_succ, i64_w, i32_w]; rfl
         refine take_ (i := 5) (N := some 17) (v := ?_) (a' := ?_) #[true, true, true, true, true, true, false] rfl rfl (by kernel_rfl) (fun _ _ _ h => h) (Or.inl ⟨by rfl, ?_⟩) hHeld ?_ ?_; rotate_left; · rintro w' ⟨s0, s1, s2⟩; go_simp; with_reducible rfl
         rotate_left; · simp only [Act.put, List.setIfInBounds_toArray, List.set_cons_zero, List.set_cons_succ, i64_w, i32_w]; rfl
         refine one_ (i := 6) (N := some 18) #[true, true, true, true, true, true, true] rfl rfl (by kernel_rfl) (by decide) (fun K hK => ?_); refine goes_ Tryd.func63 (by kernel_rfl) rfl #[.agg #[.int .i64 a0_0, .slice A0_1 l0_1.length c0_1], .slice (some ad493) l1.length c1, .int .i64 (rd l1 x5_1)] (by rfl) rfl rfl (by (try simp only [List.map_toArray, List.map_cons, List.map_nil]); first | done | rfl | (simp only [List.length_drop, List.length_take]; rfl)) ?_; with_reducible refine (deliberationnet_Attacked.calls k1 a0_0 _ _ l0_1 _ _ l1 (rd l1 x5_1) false _ ?side1 ?side2 ?side3 ?side4 A6.out).mono ?_
         (case side1 => exact zCb HR0_1 HB); (case side2 => exact HC0_1.out); (case side3 => exact zCb HR1 HB); (case side4 => exact HC1.out); rintro e w11 ⟨rfl, hb⟩; refine ⟨_, rfl, ?_⟩; replace BK492 := Aside0.mk (zKb BK492 hb); replace HB := Aside0.mk (below_step (zB HB) hb); (try clear hb); (try clear hb2); (try clear hk); (try clear hi); refine hK.out _ _ ⟨(blk_cell BK492.out 0).trans rfl, (blk_cell BK492.out 1).trans rfl, ((HB.out.cell (World.block_lt_of_cell? w _ hw493_0)).trans hw493_0)⟩ (fun hHeld => ?_); clear hK K; refine znn 18 ?_; refine done_ (by kernel_rfl) ?_; try go_wp2
         go_roundg k1
         case measure => have := HK1.out; omega
         case rel => exact ⟨(wrap64 (x5_1 + 1)), zv, H', ⟨by have := HK1.out; omega⟩, ⟨zK BK492⟩, ⟨zB HB⟩⟩
     · rw [if_neg c5] at H; exact absurd H (by simp)
   · rw [if_neg c4] at H; have c4b0 : decide (x5_1 < (l1.length : Int)) = false := decide_eq_false c4; clear c4; obtain rfl := Option.some.inj H; go_wp2; go_ret; exact ⟨by first | rfl | (simp [errW_none, errW_some] <;> rfl) | (simp [*, errW_none, errW_some] <;> rfl), zB HB⟩
end Go.Proofs.YtjmdlmogdbhdhaaDoor.P
namespace Go.Proofs.YtjmdlmogdbhdhaaDoor.P
open Go.RowKit Go.Proofs.YtjmdlmogdbhdhaaDoorW.PrintWords Go.Proofs.YtjmdlmogdbhdhaaDoorW.PrintLast Go.Proofs.YtjmdlmogdbhdhaaDoorW.PrintMore
attribute [local go_sem] max2_int min2_int max_two min_two max_three min_three max_four min_four
set_option linter.unusedVariables false
set_option linter.unusedSimpArgs false
def deliberationnet_Stable.l0 : Nat → List Int → Int → Int → List (S42) → Option (Bool)
 | 0, _, _, _, _ => none
 | k + 1, x1, x5, x496000, x496001 => if x5 < x496000 then ((deliberationnet_In.f k x1 x5).bind fun t497 => (if t497 = true then (deliberationnet_Stable.l0 k x1 (wrap64 (x5 + 1)) x496000 x496001) else ((deliberationnet_Attacked.f k x496000 x496001 x1 x5).bind fun t498 => (if t498 = true then (deliberationnet_Stable.l0 k x1 (wrap64 (x5 + 1)) x496000 x496001) else (some false))))) else ((deliberationnet_Free.f k x496000 x496001 x1).bind fun t496 => (some t496))
def deliberationnet_Stable.f (k : Nat) (a0_0 : Int) (l0_1 : List (S42)) (l1 : List Int) : Option (Bool) := deliberationnet_Stable.l0 k l1 0 a0_0 l0_1
set_option maxHeartbeats 8000000 in
set_option maxRecDepth 100000 in
theorem deliberationnet_Stable.calls (k : Nat) (a0_0 : Int) (A0_1 : Option Addr) (c0_1 : Nat) (l0_1 : List (S42)) (A1 : Option Addr) (c1 : Nat) (l1 : List Int) (r : Bool) (w : World) (hr0_1 : Kd.C k42 w A0_1 l0_1.length l0_1) (hc0_1 : l0_1.length ≤ c0_1) (hr1 : Kd.C (Kd.int .i64) w A1 l1.length l1) (hc1 : l1.length ≤ c1) (h : deliberationnet_Stable.f k a0_0 l0_1 l1 = some r) :
 Calls Tryd.prog 57 #[.agg #[.int .i64 a0_0, .slice A0_1 l0_1.length c0_1], .slice A1 l1.length c1] w fun e w' => e = .returned (.bool r) ∧ Below w.heap.size w w' := by
 have hu24 := Tryd.underlying24; have HR0_1 := Aside0.mk hr0_1; have HC0_1 := Aside0.mk hc0_1; clear hr0_1 hc0_1; have HR1 := Aside0.mk hr1; have HC1 := Aside0.mk hc1; clear hr1 hc1; have HB := Aside0.mk (Below.refl w.heap.size w); have H : (deliberationnet_Stable.l0 k l1 0 a0_0 l0_1) = some r := h; clear h; have H' := Aside0.mk H; clear H; go_enter Tryd.func57, Tryd.ntmps57; go_wp2_with (first | ((with_reducible refine gate_dst (N := 2) rfl ?_); refine zX (N := 2) (cs := #[.int .i64 a0_0, .slice A0_1 l0_1.length c0_1]) (t := 24) ?_; intro gb495 hg w3 hbox hb; have BK495 := Aside0.mk (hbox); have GW495 := Aside0.mk (zW hg HB); have GE495 := Aside0.mk (zW hg HB); replace HB := Aside0.mk (below_step (zB HB) hb); clear hb hbox hg)); go_loopg [5] k (fun kq v5 w' => ∃ (x5_1 : Int), v5 = .int .i64 x5_1 ∧ Aside0 (deliberationnet_Stable.l0 kq l1 x5_1 a0_0 l0_1 = some r) ∧ Aside0 (kq ≤ k) ∧ Aside0 (w'.heap[gb495]? = some (.cells #[.int .i64 a0_0, (.slice A0_1 l0_1.length c0_1)] 24 (0, 0))) ∧ Aside0 (Below w.heap.size w w'))
 case atStart => exact ⟨(0), zv, H', ⟨Nat.le_refl _⟩, ⟨zK BK495⟩, ⟨zB HB⟩⟩
 case round =>
  clear H'; try clear c1
  try clear p2
  obtain ⟨x5_1, rfl, HA, HK1, BK495, HB⟩ := hrel; cases gk with
  | zero => exact absurd HA.out (by simp [deliberationnet_Stable.l0])
  | succ k1 =>
   have H := HA.out; clear HA; simp only [deliberationnet_Stable.l0] at H; by_cases c4 : x5_1 < a0_0
   · rw [if_pos c4] at H; have c4b0 : decide (x5_1 < a0_0) = true := decide_eq_true c4; clear c4; replace H := Option.bind_eq_some_iff.mp H; obtain ⟨t497, A50, H⟩ := H; replace H : (if t497 = true then (deliberationnet_Stable.l0 k1 l1 (wrap64 (x5_1 + 1)) a0_0 l0_1) else ((deliberationnet_Attacked.f k1 a0_0 l0_1 l1 x5_1).bind fun t498 => (if t498 = true then (deliberationnet_Stable.l0 k1 l1 (wrap64 (x5_1 + 1)) a0_0 l0_1) else (some false)))) = some r := H; have A5 := Aside0.mk A50; clear A50; by_cases c6 : t497 = true
     · subst c6; have H1 : (deliberationnet_Stable.l0 k1 l1 (wrap64 (x5_1 + 1)) a0_0 l0_1) = some r := by rw [if_pos rfl] at H; exact H
       clear H; have H := H1; clear H1; have H' := Aside0.mk H; clear H; have hcz7_0 := zc BK495 0; have hcz7_1 := zc BK495 1; have hfz7_0 := blk_frozen BK495.out 0; have hfz7_1 := blk_frozen BK495.out 1; go_wp2_with (first | ((with_reducible refine gate_callee (f := 34) rfl ?_); refine zG (some 14) rfl Tryd.func34 #[.slice A1 l1.length c1, .int .i64 x5_1] ?_; (with_reducible refine (deliberationnet_In.calls k1 _ _ l1 x5_1 true _ ?side1 ?side2 A5.out).mono ?_); (case side1 => exact zCb HR1 HB); (case side2 => exact HC1.out); rintro e w' ⟨rfl, ⟨nd, rfl⟩⟩; refine ⟨_, rfl, ?_⟩)); go_roundg k1
       case measure => have := HK1.out; omega
       case rel => exact ⟨(wrap64 (x5_1 + 1)), zv, H', ⟨by have := HK1.out; omega⟩, ⟨zK BK495⟩, ⟨zB HB⟩⟩
     · replace c6 := Bool.eq_false_iff.mpr c6; subst c6; have H1 : ((deliberationnet_Attacked.f k1 a0_0 l0_1 l1 x5_1).bind fun t498 => (if t498 = true then (deliberationnet_Stable.l0 k1 l1 (wrap64 (x5_1 + 1)) a0_0 l0_1) else (some false))) = some r := by rw [if_neg (show ¬ (false = true) by decide)] at H; exact H
       clear H; have H := H1; clear H1; replace H := Option.bind_eq_some_iff.mp H; obtain ⟨t498, A80, H⟩ := H; replace H : (if t498 = true then (deliberationnet_Stable.l0 k1 l1 (wrap64 (x5_1 + 1)) a0_0 l0_1) else (some false)) = some r := H; have A8 := Aside0.mk A80; clear A80; by_cases c9 : t498 = true
       · subst c9; have H1 : (deliberationnet_Stable.l0 k1 l1 (wrap64 (x5_1 + 1)) a0_0 l0_1) = some r := by rw [if_pos rfl] at H; exact H
         clear H; have H := H1; clear H1; have H' := Aside0.mk H; clear H; have hcz10_0 := zc BK495 0; have hcz10_1 := zc BK495 1; have hfz10_0 := blk_frozen BK495.out 0; have hfz10_1 := blk_frozen BK495.out 1; go_wp2_with (first | ((with_reducible refine gate_callee (f := 34) rfl ?_); refine zG (some 14) rfl Tryd.func34 #[.slice A1 l1.length c1, .int .i64 x5_1] ?_; (with_reducible refine (deliberationnet_In.calls k1 _ _ l1 x5_1 false _ ?side1 ?side2 A5.out).mono ?_); (case side1 => exact zCb HR1 HB); (case side2 => exact HC1.out); rintro e w' ⟨rfl, ⟨nd, rfl⟩⟩; refine ⟨_, rfl, ?_⟩) | (go_at_call 63; (with_reducible refine (deliberationnet_Attacked.calls k1 a0_0 _ _ l0_1 _ _ l1 x5_1 true _ ?side1 ?side2 ?side3 ?side4 A8.out).mono ?_); (case side1 => repeat (first | exact (Kd.C_below HR0_1.out (zB HB)) | (with_reducible refine Kd.C_alloc ?_ _) | (with_reducible refine Kd.C_drewN ?_ _) | (with_reducible refine Kd.C_drew ?_))); (case side2 => exact HC0_1.out); (case side3 => repeat (first | exact (Kd.C_below HR1.out (zB HB)) | (with_reducible refine Kd.C_alloc ?_ _) | (with_reducible refine Kd.C_drewN ?_ _) | (with_reducible refine Kd.C_drew ?_))); (case side4 => exact HC1.out); rintro e w11 ⟨rfl, hb⟩; replace BK495 := Aside0.mk (zKb BK495 hb); replace HB := Aside0.mk (below_step (zB HB) hb); (try clear hb); (try clear hb2); (try clear hk); (try clear hi))); go_roundg k1
         case measure => have := HK1.out; omega
         case rel => exact ⟨(wrap64 (x5_1 + 1)), zv, H', ⟨by have := HK1.out; omega⟩, ⟨zK BK495⟩, ⟨zB HB⟩⟩
       · replace c9 := Bool.eq_false_iff.mpr c9; subst c9; have H1 : (some false) = some r := by rw [if_neg (show ¬ (false = true) by decide)] at H; exact H
         clear H; have H := H1; clear H1; obtain rfl := Option.some.inj H; have hcz12_0 := zc BK495 0; have hcz12_1 := zc BK495 1; have hfz12_0 := blk_frozen BK495.out 0; have hfz12_1 := blk_frozen BK495.out 1; go_wp2_with (first | ((with_reducible refine gate_callee (f := 34) rfl ?_); refine zG (some 14) rfl Tryd.func34 #[.slice A1 l1.length c1, .int .i64 x5_1] ?_; (with_reducible refine (deliberationnet_In.calls k1 _ _ l1 x5_1 false _ ?side1 ?side2 A5.out).mono ?_); (case side1 => exact zCb HR1 HB); (case side2 => exact HC1.out); rintro e w' ⟨rfl, ⟨nd, rfl⟩⟩; refine ⟨_, rfl, ?_⟩) | (go_at_call 63; (with_reducible refine (deliberationnet_Attacked.calls k1 a0_0 _ _ l0_1 _ _ l1 x5_1 false _ ?side1 ?side2 ?side3 ?side4 A8.out).mono ?_); (case side1 => repeat (first | exact (Kd.C_below HR0_1.out (zB HB)) | (with_reducible refine Kd.C_alloc ?_ _) | (with_reducible refine Kd.C_drewN ?_ _) | (with_reducible refine Kd.C_drew ?_))); (case side2 => exact HC0_1.out); (case side3 => repeat (first | exact (Kd.C_below HR1.out (zB HB)) | (with_reducible refine Kd.C_alloc ?_ _) | (with_reducible refine Kd.C_drewN ?_ _) | (with_reducible refine Kd.C_drew ?_))); (case side4 => exact HC1.out); rintro e w13 ⟨rfl, hb⟩; replace BK495 := Aside0.mk (zKb BK495 hb); replace HB := Aside0.mk (below_step (zB HB) hb); (try clear hb); (try clear hb2); (try clear hk); (try clear hi))); go_ret; exact ⟨by first | rfl | (simp [errW_none, errW_some] <;> rfl) | (simp [*, errW_none, errW_some] <;> rfl), zB HB⟩
   · rw [if_neg c4] at H; have c4b0 : decide (x5_1 < a0_0) = false := decide_eq_false c4; clear c4; replace H := Option.bind_eq_some_iff.mp H; obtain ⟨t496, A140, H⟩ := H; replace H : (some t496) = some r := H; have A14 := Aside0.mk A140; clear A140; obtain rfl := Option.some.inj H; have hcz15_0 := zc BK495 0; have hcz15_1 := zc BK495 1; have hfz15_0 := blk_frozen BK495.out 0; have hfz15_1 := blk_frozen BK495.out 1; go_wp2_with (first | ((with_reducible refine gate_callee (f := 81) rfl ?_); refine zG (some 25) rfl Tryd.func81 #[.agg #[.int .i64 a0_0, .slice A0_1 l0_1.length c0_1], .slice A1 l1.length c1] ?_; (with_reducible refine (deliberationnet_Free.calls k1 a0_0 _ _ l0_1 _ _ l1 t496 _ ?side1 ?side2 ?side3 ?side4 A14.out).mono ?_); (case side1 => exact zCb HR0_1 HB); (case side2 => exact HC0_1.out); (case side3 => exact zCb HR1 HB); (case side4 => exact HC1.out); rintro e w16 ⟨rfl, hb⟩; refine ⟨_, rfl, ?_⟩; replace BK495 := Aside0.mk (zKb BK495 hb); replace HB := Aside0.mk (below_step (zB HB) hb); (try clear hb); (try clear hb2); (try clear hk); (try clear hi))); go_ret; exact ⟨by first | rfl | (simp [errW_none, errW_some] <;> rfl) | (simp [*, errW_none, errW_some] <;> rfl), zB HB⟩
end Go.Proofs.YtjmdlmogdbhdhaaDoor.P
