import Derived.Deep.DeepMust
import Derived.RegionTactic
import Derived.Lib.RabinKarpLaws
import Derived.Test.YtjmdlmogdbhdhaaDoorA4
import Derived.Test.YtjmdlmogdbhdhaaDoorA2
import Derived.Test.YtjmdlmogdbhdhaaDoorA3
/- Plain facts: what lies in the duties. -/
namespace Go.Proofs.YtjmdlmogdbhdhaaDoor.P
open Go.RowKit Go.Proofs.YtjmdlmogdbhdhaaDoorW.PrintWords Go.Proofs.YtjmdlmogdbhdhaaDoorW.PrintLast Go.Proofs.YtjmdlmogdbhdhaaDoorW.PrintMore
theorem nodD_mem (L : List S42) (s : List Int) (kind : Int) (d : List S42) : ∀ (n i : Nat), d ∈ nodD L s kind n i ↔ ∃ a : Nat, i ≤ a ∧ a < i + n ∧ skp L s kind a = false ∧ d = oneD L s kind a
  | 0, i => by
    simp only [nodD, List.not_mem_nil, false_iff]
    rintro ⟨a, h1, h2, _⟩
    omega
  | n + 1, i => by
    have ih := nodD_mem L s kind d n (i + 1)
    simp only [nodD]
    by_cases hs : skp L s kind i = true
    · rw [if_pos hs, ih]
      constructor
      · rintro ⟨a, h1, h2, h3, h4⟩
        exact ⟨a, by omega, by omega, h3, h4⟩
      · rintro ⟨a, h1, h2, h3, h4⟩
        by_cases hai : a = i
        · rw [hai, hs] at h3; cases h3
        · exact ⟨a, by omega, by omega, h3, h4⟩
    · rw [if_neg hs, List.mem_cons, ih]
      constructor
      · rintro (h | ⟨a, h1, h2, h3, h4⟩)
        · exact ⟨i, by omega, by omega, by simpa using hs, h⟩
        · exact ⟨a, by omega, by omega, h3, h4⟩
      · rintro ⟨a, h1, h2, h3, h4⟩
        by_cases hai : a = i
        · left; rw [h4, hai]
        · right; exact ⟨a, by omega, by omega, h3, h4⟩
theorem idut_mem (L : List S42) (s : List Int) (d : List S42) : d ∈ idut L s ↔ ∃ p ∈ L, p.f0 ∈ s ∧ p.f1 ∈ s ∧ d = [p] := by
  unfold idut
  simp only [List.mem_map, List.mem_filter, Bool.and_eq_true, inn, decide_eq_true_eq]
  constructor
  · rintro ⟨p, ⟨h1, h2, h3⟩, rfl⟩
    exact ⟨p, h1, h2, h3, rfl⟩
  · rintro ⟨p, h1, h2, h3, rfl⟩
    exact ⟨p, ⟨h1, h2, h3⟩, rfl⟩
theorem dut_mem {N : Int} (hN : 0 ≤ N) (L : List S42) (s : List Int) (kind : Int) (d : List S42) : d ∈ dut N L s kind ↔ (∃ p ∈ L, p.f0 ∈ s ∧ p.f1 ∈ s ∧ d = [p]) ∨ ∃ a : Nat, (a : Int) < N ∧ skp L s kind a = false ∧ d = oneD L s kind a := by
  unfold dut
  rw [List.mem_append, idut_mem, nodD_mem]
  refine or_congr Iff.rfl ⟨?_, ?_⟩
  · rintro ⟨a, h1, h2, h3, h4⟩
    exact ⟨a, by omega, h3, h4⟩
  · rintro ⟨a, h1, h3, h4⟩
    exact ⟨a, by omega, by omega, h3, h4⟩
theorem rawD_mem (L : List S42) (s : List Int) (hs : ∀ x ∈ s, 0 ≤ x ∧ x < 64) (kind : Int) (a : Nat) (p : S42) : p ∈ rawD L s kind a ↔ (p.f0 ∈ s ∧ p.f1 = a) ∨ (kind = 1 ∧ p.f0 = a ∧ p.f1 ∈ s ∧ p ∈ L) := by
  unfold rawD
  rw [List.mem_append]
  have h1 : p ∈ s.map (fun x => (⟨x, (a : Int)⟩ : S42)) ↔ (p.f0 ∈ s ∧ p.f1 = a) := by
    rw [List.mem_map]
    constructor
    · rintro ⟨x, hx, rfl⟩
      exact ⟨hx, rfl⟩
    · rintro ⟨hx, hy⟩
      exact ⟨p.f0, hx, by cases p; simp only at hy; rw [hy]⟩
  rw [h1]
  refine or_congr Iff.rfl ?_
  by_cases hk : kind = 1
  · rw [if_pos hk, List.mem_map]
    unfold back
    have hsm : ∀ b : Nat, 64 ≤ b → (edg L a b && inl s b) = false := fun b hb => by
      have : inl s b = false := decide_eq_false (fun h => by have := hs _ h; omega)
      rw [this, Bool.and_false]
    constructor
    · rintro ⟨x, hx, rfl⟩
      rw [lst_mem hsm] at hx
      obtain ⟨h0, hx⟩ := hx
      rw [Bool.and_eq_true] at hx
      have hc : ((x.toNat : Nat) : Int) = x := by omega
      have e1 := of_decide_eq_true hx.1
      have e2 := of_decide_eq_true hx.2
      rw [hc] at e1 e2
      exact ⟨hk, rfl, e2, e1⟩
    · rintro ⟨_, h2, h3, h4⟩
      have h5 := hs _ h3
      have hc : ((p.f1.toNat : Nat) : Int) = p.f1 := by omega
      have hpe : p = ⟨(a : Int), p.f1⟩ := by cases p; simp only at h2; rw [h2]
      refine ⟨p.f1, (lst_mem hsm _).2 ⟨h5.1, ?_⟩, hpe.symm⟩
      rw [Bool.and_eq_true]
      exact ⟨decide_eq_true (by rw [hc, ← hpe]; exact h4), decide_eq_true (by rw [hc]; exact h3)⟩
  · rw [if_neg hk]
    simp [hk]
theorem oneD_mem (L : List S42) (s : List Int) (hs : ∀ x ∈ s, 0 ≤ x ∧ x < 64) (kind : Int) (a : Nat) (p : S42) : p ∈ oneD L s kind a ↔ (p.f0 ∈ s ∧ p.f1 = a) ∨ (kind = 1 ∧ p.f0 = a ∧ p.f1 ∈ s ∧ p ∈ L) := by
  unfold oneD
  rw [(isP_perm _).mem_iff, rawD_mem L s hs]
end Go.Proofs.YtjmdlmogdbhdhaaDoor.P
/- Plain facts: the change for each duty, and Strict. -/
namespace Go.Proofs.YtjmdlmogdbhdhaaDoor.P
open Go.RowKit Go.Proofs.YtjmdlmogdbhdhaaDoorW.PrintWords Go.Proofs.YtjmdlmogdbhdhaaDoorW.PrintLast Go.Proofs.YtjmdlmogdbhdhaaDoorW.PrintMore
theorem head_mem {d : List S42} (h : 0 < d.length) : rd_T42 d 0 ∈ d := by
  have := rdT_get d 0 h
  rw [show (0 : Int) = ((0 : Nat) : Int) from rfl, this]
  exact List.getElem_mem h
theorem skp_out {L : List S42} {s : List Int} {kind : Int} {a : Nat} (h : skp L s kind a = false) : ¬ (a : Int) ∈ s := by
  unfold skp at h
  rw [Bool.or_eq_false_iff] at h
  exact of_decide_eq_false h.1
theorem oneD_pos {L : List S42} {s : List Int} (hs : ∀ x ∈ s, 0 ≤ x ∧ x < 64) (kind : Int) (a : Nat) (hne : 0 < s.length) : 0 < (oneD L s kind a).length := by
  refine List.length_pos_of_mem (a := (⟨s[0], (a : Int)⟩ : S42)) ?_
  rw [oneD_mem L s hs]
  exact .inl ⟨List.getElem_mem hne, rfl⟩
theorem chg_one {L : List S42} {s : List Int} (hs : ∀ x ∈ s, 0 ≤ x ∧ x < 64) {kind : Int} {a : Nat} (h : skp L s kind a = false) (hne : 0 < s.length) : chg s (oneD L s kind a) = ⟨rd s 0, (a : Int)⟩ := by
  have ha := skp_out h
  have hm := (oneD_mem L s hs kind a _).1 (head_mem (oneD_pos (L := L) hs kind a hne))
  have hn : inn s (a : Int) = false := decide_eq_false ha
  rcases hm with ⟨h1, h2⟩ | ⟨_, h1, h2, _⟩
  · have h3 : inn s (rd_T42 (oneD L s kind a) 0).f1 = false := by rw [h2]; exact hn
    rw [chg_out (by rw [h3, Bool.and_false]), if_neg (by rw [h3]; simp), h2]
  · have h3 : inn s (rd_T42 (oneD L s kind a) 0).f0 = false := by rw [h1]; exact hn
    have h4 : inn s (rd_T42 (oneD L s kind a) 0).f1 = true := decide_eq_true h2
    rw [chg_out (by rw [h3, Bool.false_and]), if_pos h4, h1]
theorem chg_edge {s : List Int} {p : S42} (h0 : p.f0 ∈ s) (h1 : p.f1 ∈ s) : chg s [p] = p := by
  have e : rd_T42 [p] 0 = p := rfl
  rw [chg_in (by rw [e, show inn s p.f0 = true from decide_eq_true h0, show inn s p.f1 = true from decide_eq_true h1]; rfl), e]
theorem dut_len {N : Int} {L : List S42} (hG : GoodG N L) (s : List Int) (kind : Int) : (dut N L s kind).length ≤ 1640 := by
  have h1 := good_len hG
  have h2 := hG.n1
  have h3 : (idut L s).length ≤ L.length := by
    unfold idut
    rw [List.length_map]
    exact List.length_filter_le _ _
  have h4 : ∀ (n i : Nat), (nodD L s kind n i).length ≤ n := by
    intro n
    induction n with
    | zero => intro i; simp [nodD]
    | succ n ih =>
      intro i
      have := ih (i + 1)
      simp only [nodD]
      split
      · omega
      · simp; omega
  have := h4 N.toNat 0
  unfold dut
  rw [List.length_append]
  omega
theorem strict_ok {N : Int} {L : List S42} (hG : GoodG N L) {s : List Int} (hs : SetL N s) {kind : Int} (hne : 0 < s.length ∨ dut N L s kind = []) : Ev (fun k => enforce_strict.f k N L s kind) (s, (dut N L s kind).map (chg s), dut N L s kind) := by
  have h0 := hG.n0
  have h1 := hG.n1
  have hl := hs.len h0 h1
  have hs64 : ∀ x ∈ s, 0 ≤ x ∧ x < 64 := fun x hx => by have := hs.1 x hx; omega
  obtain ⟨u, e1, hu⟩ := hs.of h0 h1
  have hc : @slices_Clone_int_int.f s = some s := by unfold slices_Clone_int_int.f; rw [if_pos (by omega)]
  have hd : ∀ d ∈ dut N L s kind, 0 < d.length ∧ 0 < s.length ∧ 0 ≤ (rd_T42 d 0).f0 ∧ (rd_T42 d 0).f0 < 64 ∧ 0 ≤ (rd_T42 d 0).f1 ∧ (rd_T42 d 0).f1 < 64 := by
    intro d hd
    have hne' : 0 < s.length := hne.resolve_right (fun e => by rw [e] at hd; cases hd)
    rcases (dut_mem h0 L s kind d).1 hd with ⟨p, hp, h2, h3, rfl⟩ | ⟨a, ha, hsk, rfl⟩
    · have := hG.inr p hp
      exact ⟨by simp, hne', by show 0 ≤ p.f0; omega, by show p.f0 < 64; omega, by show 0 ≤ p.f1; omega, by show p.f1 < 64; omega⟩
    · have hp := oneD_pos (L := L) hs64 kind a hne'
      have hm := (oneD_mem L s hs64 kind a _).1 (head_mem hp)
      refine ⟨hp, hne', ?_⟩
      rcases hm with ⟨h2, h3⟩ | ⟨_, h2, h3, _⟩
      · have := hs64 _ h2
        omega
      · have := hs64 _ h3
        omega
  have hstr := strict_l0 hu (ds := dut N L s kind) (by have := dut_len hG s kind; omega) hd s (dut N L s kind) (dut N L s kind).length 0 (by omega) [] (by simp)
  rw [List.drop_zero, List.nil_append] at hstr
  simp only [enforce_strict.f, hc, Option.bind_some]
  exact Ev.bind e1 (Ev.bind (duties_ok hG hs kind) hstr)
end Go.Proofs.YtjmdlmogdbhdhaaDoor.P
/- Plain facts: Strict. -/
namespace Go.Proofs.YtjmdlmogdbhdhaaDoor.P
open Go.RowKit Go.Proofs.YtjmdlmogdbhdhaaDoorW.PrintWords Go.Proofs.YtjmdlmogdbhdhaaDoorW.PrintLast Go.Proofs.YtjmdlmogdbhdhaaDoorW.PrintMore
theorem skp_empty (L : List S42) (a : Nat) : skp L [] 1 a = true := by
  have : hitBy L (inl []) a = false := by
    rw [Bool.eq_false_iff]
    intro h
    obtain ⟨b, hb, _⟩ := (hitBy_iff L [] (fun x hx => by cases hx) a).1 h
    cases hb
  unfold skp
  rw [this]
  simp
theorem dut_empty {N : Int} {L : List S42} (hN : 0 ≤ N) {kind : Int} (h : kind = 1 ∨ N = 0) : dut N L [] kind = [] := by
  rw [List.eq_nil_iff_forall_not_mem]
  intro d hd
  rcases (dut_mem hN L [] kind d).1 hd with ⟨p, _, h1, _⟩ | ⟨a, ha, hs, _⟩
  · cases h1
  · rcases h with rfl | h
    · rw [skp_empty] at hs; cases hs
    · omega
/-- No change makes it acceptable. -/
def hopeless (N : Int) (s : List Int) (kind : Int) : Prop := s = [] ∧ kind = 2 ∧ 0 < N
instance (N : Int) (s : List Int) (kind : Int) : Decidable (hopeless N s kind) := by unfold hopeless; infer_instance
theorem hopeless_f (N : Int) (L : List S42) (s : List Int) (kind : Int) : enforce_hopeless.f N L s kind = some (decide (hopeless N s kind)) := by
  unfold enforce_hopeless.f hopeless
  cases s with
  | nil =>
    by_cases hk : kind = 2
    · simp [hk]
    · simp [hk]
  | cons a r =>
    rw [if_neg (by simp; omega)]
    simp
theorem Strict_ok {N : Int} {L : List S42} (hG : GoodG N L) {s : List Int} (hs : SetL N s) {kind : Int} (hk : kind = 1 ∨ kind = 2) : Ev (fun k => enforce_Strict.f k N L s kind) (if hopeless N s kind then ([], [], [], 9) else (s, (dut N L s kind).map (chg s), dut N L s kind, 0)) := by
  have h0 := hG.n0
  simp only [enforce_Strict.f, hopeless_f, Option.bind_some]
  refine Ev.bind (args_ok hG hs hk) (Ev.pos rfl ?_)
  by_cases hh : hopeless N s kind
  · rw [if_pos hh]
    exact Ev.pos (decide_eq_true hh) (Ev.const _)
  · rw [if_neg hh]
    refine Ev.neg (by simpa using hh) (Ev.bind (strict_ok hG hs ?_) (Ev.const _))
    cases s with
    | cons a r => exact .inl (by simp)
    | nil =>
      refine .inr (dut_empty h0 ?_)
      rcases hk with rfl | rfl
      · exact .inl rfl
      · right
        have : ¬ 0 < N := fun h => hh ⟨rfl, rfl, h⟩
        omega
end Go.Proofs.YtjmdlmogdbhdhaaDoor.P
/- Plain facts: behind the changes the set is acceptable. -/
namespace Go.Proofs.YtjmdlmogdbhdhaaDoor.P
open Go.RowKit Go.Proofs.YtjmdlmogdbhdhaaDoorW.PrintWords Go.Proofs.YtjmdlmogdbhdhaaDoorW.PrintLast Go.Proofs.YtjmdlmogdbhdhaaDoorW.PrintMore
def chs (N : Int) (L : List S42) (s : List Int) (kind : Int) : List S42 := (dut N L s kind).map (chg s)
theorem chs_mem {N : Int} (hN : 0 ≤ N) (L : List S42) {s : List Int} (hs : ∀ x ∈ s, 0 ≤ x ∧ x < 64) (kind : Int) (hne : 0 < s.length ∨ dut N L s kind = []) (p : S42) : p ∈ chs N L s kind ↔ (p ∈ L ∧ p.f0 ∈ s ∧ p.f1 ∈ s) ∨ (0 < s.length ∧ ∃ a : Nat, (a : Int) < N ∧ skp L s kind a = false ∧ p = ⟨rd s 0, (a : Int)⟩) := by
  unfold chs
  rw [List.mem_map]
  constructor
  · rintro ⟨d, hd, rfl⟩
    have hne' : 0 < s.length := hne.resolve_right (fun e => by rw [e] at hd; cases hd)
    rcases (dut_mem hN L s kind d).1 hd with ⟨p, hp, h2, h3, rfl⟩ | ⟨a, ha, hsk, rfl⟩
    · rw [chg_edge h2 h3]
      exact .inl ⟨hp, h2, h3⟩
    · rw [chg_one hs hsk hne']
      exact .inr ⟨hne', a, ha, hsk, rfl⟩
  · rintro (⟨h1, h2, h3⟩ | ⟨hne', a, ha, hsk, rfl⟩)
    · exact ⟨[p], (dut_mem hN L s kind _).2 (.inl ⟨p, h1, h2, h3, rfl⟩), chg_edge h2 h3⟩
    · exact ⟨_, (dut_mem hN L s kind _).2 (.inr ⟨a, ha, hsk, rfl⟩), chg_one hs hsk hne'⟩
theorem rd0_mem {s : List Int} (h : 0 < s.length) : rd s 0 ∈ s := by
  have := rd_get s 0 h
  rw [show (0 : Int) = ((0 : Nat) : Int) from rfl, this]
  exact List.getElem_mem h
/-- Behind the changes the set is acceptable. -/
theorem chs_acc {N : Int} {L R : List S42} (hG : GoodG N L) {s : List Int} (hs : SetL N s) {kind : Int} (hk : kind = 1 ∨ kind = 2) (hh : ¬ hopeless N s kind) (hne : 0 < s.length ∨ dut N L s kind = []) (hR : SymD L (chs N L s kind) R) : AccP N R s kind := by
  have hN := hG.n0
  have hN2 := hG.n1
  have hs64 : ∀ x ∈ s, 0 ≤ x ∧ x < 64 := fun x hx => by have := hs.1 x hx; omega
  have hm := chs_mem hN L hs64 kind hne
  -- an edge of the graph that comes from the set and ends outside of it stays
  have stay : ∀ (x a : Int), x ∈ s → 0 ≤ a → ¬ a ∈ s → (⟨x, a⟩ : S42) ∈ L → (⟨x, a⟩ : S42) ∈ R := by
    intro x a hx h0 ha he
    refine (hR _).2 (.inl ⟨he, fun hc => ?_⟩)
    rcases (hm _).1 hc with ⟨_, _, h3⟩ | ⟨_, b, _, hsk, hb⟩
    · exact ha h3
    · have hab : a = (b : Int) := congrArg S42.f1 hb
      have : hits L (inl s) b = true := (hits_iff L s hs64 b).2 ⟨x, hx, by rw [← hab]; exact he⟩
      unfold skp at hsk
      rw [this] at hsk
      simp at hsk
  -- a node outside that is neither hit nor skipped is hit from the first element
  have new : ∀ (a : Nat), (a : Int) < N → skp L s kind a = false → 0 < s.length → (⟨rd s 0, (a : Int)⟩ : S42) ∈ R := by
    intro a ha hsk hp
    refine (hR _).2 (.inr ⟨fun he => ?_, (hm _).2 (.inr ⟨hp, a, ha, hsk, rfl⟩)⟩)
    have : hits L (inl s) a = true := (hits_iff L s hs64 a).2 ⟨rd s 0, rd0_mem hp, he⟩
    unfold skp at hsk
    rw [this] at hsk
    simp at hsk
  refine ⟨fun a ha b hb he => ?_, ?_⟩
  · rcases (hR _).1 he with ⟨h1, h2⟩ | ⟨h1, h2⟩
    · exact h2 ((hm _).2 (.inl ⟨h1, ha, hb⟩))
    · rcases (hm _).1 h2 with ⟨h3, _⟩ | ⟨_, c, _, hsk, hc⟩
      · exact h1 h3
      · have hbc : b = (c : Int) := congrArg S42.f1 hc
        exact skp_out hsk (by rw [← hbc]; exact hb)
  · by_cases hk2 : kind = 2
    · rw [if_pos hk2]
      intro a h0 ha
      by_cases has : a ∈ s
      · exact .inl has
      · right
        have hc : ((a.toNat : Nat) : Int) = a := by omega
        have hp : 0 < s.length := by
          rcases Nat.eq_zero_or_pos s.length with h | h
          · exact absurd ⟨List.eq_nil_of_length_eq_zero h, hk2, by omega⟩ hh
          · exact h
        by_cases hhit : hits L (inl s) a.toNat = true
        · obtain ⟨x, hx, he⟩ := (hits_iff L s hs64 _).1 hhit
          rw [hc] at he
          exact ⟨x, hx, stay x a hx h0 has he⟩
        · have hsk : skp L s kind a.toNat = false := by
            unfold skp
            rw [show inl s a.toNat = false from by unfold inl; rw [hc]; exact decide_eq_false has, show decide (kind = 1) = false from decide_eq_false (by omega)]
            simpa using hhit
          have := new a.toNat (by omega) hsk hp
          rw [hc] at this
          exact ⟨_, rd0_mem hp, this⟩
    · rw [if_neg hk2]
      intro p hp hb
      have hk1 : kind = 1 := by omega
      have hpos : 0 < s.length := List.length_pos_of_mem hb
      have hpL : p ∈ L ∧ ¬ p ∈ chs N L s kind := by
        rcases (hR _).1 hp with h | ⟨h1, h2⟩
        · exact h
        · rcases (hm _).1 h2 with ⟨h3, _⟩ | ⟨_, c, _, hsk, hc⟩
          · exact absurd h3 h1
          · exact absurd (by rw [hc] at hb; exact hb) (skp_out hsk)
      have hr := hG.inr p hpL.1
      have has : ¬ p.f0 ∈ s := fun h => hpL.2 ((hm _).2 (.inl ⟨hpL.1, h, hb⟩))
      have hc : ((p.f0.toNat : Nat) : Int) = p.f0 := by omega
      by_cases hhit : hits L (inl s) p.f0.toNat = true
      · obtain ⟨x, hx, he⟩ := (hits_iff L s hs64 _).1 hhit
        rw [hc] at he
        exact ⟨x, hx, stay x p.f0 hx hr.1 has he⟩
      · have hby : hitBy L (inl s) p.f0.toNat = true := (hitBy_iff L s hs64 _).2 ⟨p.f1, hb, by rw [hc]; exact hpL.1⟩
        have hsk : skp L s kind p.f0.toNat = false := by
          unfold skp
          rw [hby, show inl s p.f0.toNat = false from by unfold inl; rw [hc]; exact decide_eq_false has]
          simpa using hhit
        have := new p.f0.toNat (by omega) hsk hpos
        rw [hc] at this
        exact ⟨_, rd0_mem hpos, this⟩
end Go.Proofs.YtjmdlmogdbhdhaaDoor.P
/- Plain facts: the changes are pairs of nodes, each once. -/
namespace Go.Proofs.YtjmdlmogdbhdhaaDoor.P
open Go.RowKit Go.Proofs.YtjmdlmogdbhdhaaDoorW.PrintWords Go.Proofs.YtjmdlmogdbhdhaaDoorW.PrintLast Go.Proofs.YtjmdlmogdbhdhaaDoorW.PrintMore
theorem chs_idut (L : List S42) (s : List Int) : (idut L s).map (chg s) = L.filter fun p => inn s p.f0 && inn s p.f1 := by
  unfold idut
  rw [List.map_map]
  conv => rhs; rw [← List.map_id (L.filter fun p => inn s p.f0 && inn s p.f1)]
  refine List.map_congr_left fun p hp => ?_
  rw [List.mem_filter, Bool.and_eq_true] at hp
  exact chg_edge (of_decide_eq_true hp.2.1) (of_decide_eq_true hp.2.2)
theorem chs_nodD {L : List S42} {s : List Int} (hs : ∀ x ∈ s, 0 ≤ x ∧ x < 64) (kind : Int) (hne : 0 < s.length) : ∀ n i, ((nodD L s kind n i).map (chg s)).Pairwise (fun p q => p.f1 < q.f1) ∧ ∀ p ∈ (nodD L s kind n i).map (chg s), (i : Int) ≤ p.f1
  | 0, i => by simp [nodD]
  | n + 1, i => by
    obtain ⟨h1, h2⟩ := chs_nodD hs kind hne (L := L) n (i + 1)
    simp only [nodD]
    by_cases hsk : skp L s kind i = true
    · rw [if_pos hsk]
      exact ⟨h1, fun p hp => by have := h2 p hp; omega⟩
    · rw [if_neg hsk, List.map_cons, chg_one hs (by simpa using hsk) hne]
      refine ⟨List.pairwise_cons.2 ⟨fun p hp => ?_, h1⟩, fun p hp => ?_⟩
      · have := h2 p hp
        show (i : Int) < p.f1
        omega
      · rcases List.mem_cons.1 hp with rfl | hp
        · exact Int.le_refl _
        · have := h2 p hp
          omega
theorem chs_nodup {N : Int} {L : List S42} (hG : GoodG N L) {s : List Int} (hs : SetL N s) (kind : Int) (hne : 0 < s.length ∨ dut N L s kind = []) : (chs N L s kind).Nodup := by
  have hN2 := hG.n1
  have hs64 : ∀ x ∈ s, 0 ≤ x ∧ x < 64 := fun x hx => by have := hs.1 x hx; omega
  rcases hne with hp | he
  · unfold chs dut
    rw [List.map_append, chs_idut, List.nodup_append]
    obtain ⟨h1, _⟩ := chs_nodD (L := L) hs64 kind hp N.toNat 0
    refine ⟨List.Nodup.sublist List.filter_sublist (ord_nodup hG.ord), List.nodup_iff_pairwise_ne.2 (h1.imp fun h e => by rw [e] at h; omega), fun p hp1 q hq => ?_⟩
    rintro rfl
    rw [List.mem_filter, Bool.and_eq_true] at hp1
    obtain ⟨d, hd, hdq⟩ := List.mem_map.1 hq
    obtain ⟨a, _, _, hsk, rfl⟩ := (nodD_mem L s kind d _ _).1 hd
    rw [chg_one hs64 hsk hp] at hdq
    have : p.f1 = (a : Int) := by rw [← hdq]
    exact skp_out hsk (by rw [← this]; exact of_decide_eq_true hp1.2.2)
  · unfold chs
    rw [he]
    simp
theorem chs_inr {N : Int} {L : List S42} (hG : GoodG N L) {s : List Int} (hs : SetL N s) (kind : Int) (hne : 0 < s.length ∨ dut N L s kind = []) : InR N (chs N L s kind) := by
  have hN2 := hG.n1
  have hs64 : ∀ x ∈ s, 0 ≤ x ∧ x < 64 := fun x hx => by have := hs.1 x hx; omega
  intro p hp
  rcases (chs_mem hG.n0 L hs64 kind hne p).1 hp with ⟨h, _⟩ | ⟨hpos, a, ha, _, rfl⟩
  · exact hG.inr p h
  · have := hs.1 _ (rd0_mem hpos)
    exact ⟨this.1, this.2, by show (0 : Int) ≤ (a : Int); omega, ha⟩
end Go.Proofs.YtjmdlmogdbhdhaaDoor.P
/- Plain facts: no duties exactly if the set is acceptable. -/
namespace Go.Proofs.YtjmdlmogdbhdhaaDoor.P
open Go.RowKit Go.Proofs.YtjmdlmogdbhdhaaDoorW.PrintWords Go.Proofs.YtjmdlmogdbhdhaaDoorW.PrintLast Go.Proofs.YtjmdlmogdbhdhaaDoorW.PrintMore
theorem dut_nil {N : Int} {L : List S42} (hG : GoodG N L) {s : List Int} (hs : SetL N s) {kind : Int} (hk : kind = 1 ∨ kind = 2) : dut N L s kind = [] ↔ AccP N L s kind := by
  have hN := hG.n0
  have hN2 := hG.n1
  have hs64 : ∀ x ∈ s, 0 ≤ x ∧ x < 64 := fun x hx => by have := hs.1 x hx; omega
  rw [List.eq_nil_iff_forall_not_mem]
  constructor
  · intro h
    have hin : ∀ p ∈ L, p.f0 ∈ s → ¬ p.f1 ∈ s := fun p hp h0 h1 => h [p] ((dut_mem hN L s kind _).2 (.inl ⟨p, hp, h0, h1, rfl⟩))
    have hsk : ∀ a : Nat, (a : Int) < N → skp L s kind a = true := fun a ha => by
      cases hc : skp L s kind a with
      | true => rfl
      | false => exact absurd ((dut_mem hN L s kind _).2 (.inr ⟨a, ha, hc, rfl⟩)) (h _)
    refine ⟨fun a ha b hb he => hin _ he ha hb, ?_⟩
    by_cases hk2 : kind = 2
    · rw [if_pos hk2]
      intro a h0 ha
      have hc : ((a.toNat : Nat) : Int) = a := by omega
      have := hsk a.toNat (by omega)
      unfold skp at this
      rw [show decide (kind = 1) = false from decide_eq_false (by omega), Bool.false_and, Bool.or_false, Bool.or_eq_true] at this
      rcases this with h1 | h1
      · left
        have := of_decide_eq_true h1
        rwa [hc] at this
      · right
        obtain ⟨x, hx, he⟩ := (hits_iff L s hs64 _).1 h1
        exact ⟨x, hx, by rwa [hc] at he⟩
    · rw [if_neg hk2]
      intro p hp hb
      have hr := hG.inr p hp
      have hc : ((p.f0.toNat : Nat) : Int) = p.f0 := by omega
      have := hsk p.f0.toNat (by omega)
      have hby : hitBy L (inl s) p.f0.toNat = true := (hitBy_iff L s hs64 _).2 ⟨p.f1, hb, by rw [hc]; exact hp⟩
      unfold skp at this
      rw [hby, Bool.not_true, Bool.and_false, Bool.or_false, Bool.or_eq_true] at this
      rcases this with h1 | h1
      · have := of_decide_eq_true h1
        rw [hc] at this
        exact absurd hb (hin p hp this)
      · obtain ⟨x, hx, he⟩ := (hits_iff L s hs64 _).1 h1
        exact ⟨x, hx, by rwa [hc] at he⟩
  · rintro ⟨hf, h⟩ d hd
    rcases (dut_mem hN L s kind d).1 hd with ⟨p, hp, h0, h1, _⟩ | ⟨a, ha, hsk, _⟩
    · exact hf _ h0 _ h1 hp
    · have hao := skp_out hsk
      unfold skp at hsk
      rw [Bool.or_eq_false_iff, Bool.or_eq_false_iff] at hsk
      obtain ⟨_, h2, h3⟩ := hsk
      have hno : ¬ ∃ x ∈ s, (⟨x, (a : Int)⟩ : S42) ∈ L := fun he => by rw [(hits_iff L s hs64 a).2 he] at h2; cases h2
      by_cases hk2 : kind = 2
      · rw [if_pos hk2] at h
        rcases h a (by omega) ha with h4 | h4
        · exact hao h4
        · exact hno h4
      · rw [if_neg hk2] at h
        rw [show decide (kind = 1) = true from decide_eq_true (by omega), Bool.true_and, Bool.not_eq_false'] at h3
        obtain ⟨b, hb, he⟩ := (hitBy_iff L s hs64 a).1 h3
        exact hno (h _ he hb)
end Go.Proofs.YtjmdlmogdbhdhaaDoor.P
namespace Go.Proofs.YtjmdlmogdbhdhaaDoor.P
open Go.RowKit Go.Proofs.YtjmdlmogdbhdhaaDoorW.PrintWords Go.Proofs.YtjmdlmogdbhdhaaDoorW.PrintLast Go.Proofs.YtjmdlmogdbhdhaaDoorW.PrintMore
attribute [local go_sem] max2_int min2_int max_two min_two max_three min_three max_four min_four
set_option linter.unusedVariables false
set_option linter.unusedSimpArgs false
attribute [local go_sem high] eqA42
def api_Pair_87.l0 : Nat → List (S42) → Int → Int → Int → Int → Option (Int)
 | 0, _, _, _, _, _ => none
 | k + 1, x0, x7, x8, x235000, x235001 => if x8 < x7 then (if 0 ≤ x8 then (if x8 < (x0.length : Int) then (if (x235000 == ((rd_T42 x0 x8).f0) && (x235001 == ((rd_T42 x0 x8).f1))) = true then (some x8) else (api_Pair_87.l0 k x0 x7 (wrap64 (x8 + 1)) x235000 x235001)) else (none)) else (none)) else (some (-1))
def api_Pair_87.f (k : Nat) (l0 : List (S42)) (a1_0 : Int) (a1_1 : Int) : Option (Int) := api_Pair_87.l0 k l0 (l0.length : Int) 0 a1_0 a1_1
set_option maxHeartbeats 8000000 in
set_option maxRecDepth 100000 in
theorem api_Pair_87.calls (k : Nat) (A0 : Option Addr) (c0 : Nat) (l0 : List (S42)) (a1_0 : Int) (a1_1 : Int) (r : Int) (w : World) (hr0 : Kd.C k42 w A0 l0.length l0) (hc0 : l0.length ≤ c0) (h : api_Pair_87.f k l0 a1_0 a1_1 = some r) :
 Calls Tryd.prog 87 #[.slice A0 l0.length c0, .agg #[.int .i64 a1_0, .int .i64 a1_1]] w fun e w' => e = .returned (.int .i64 r) ∧ Below w.heap.size w w' := by
 have hu42 := Tryd.underlying42; have HR0 := Aside0.mk hr0; have HC0 := Aside0.mk hc0; clear hr0 hc0; have HB := Aside0.mk (Below.refl w.heap.size w); have H : (api_Pair_87.l0 k l0 (l0.length : Int) 0 a1_0 a1_1) = some r := h; clear h; have H' := Aside0.mk H; clear H; go_enter Tryd.func87, Tryd.ntmps87; go_wp2_with (first | ((with_reducible refine gate_dst (N := 3) rfl ?_); refine zX (N := 3) (cs := #[.int .i64 a1_0, .int .i64 a1_1]) (t := 42) ?_; intro gb234 hg w3 hbox hb; have BK234 := Aside0.mk (hbox); have GW234 := Aside0.mk (zW hg HB); have GE234 := Aside0.mk (zW hg HB); replace HB := Aside0.mk (below_step (zB HB) hb); clear hb hbox hg)); repeat (go_quiet (first | ((with_reducible refine gate_dst (N := 3) rfl ?_); refine zX (N := 3) (cs := #[.int .i64 a1_0, .int .i64 a1_1]) (t := 42) ?_; intro gb234 hg w3 hbox hb; have BK234 := Aside0.mk (hbox); have GW234 := Aside0.mk (zW hg HB); have GE234 := Aside0.mk (zW hg HB); replace HB := Aside0.mk (below_step (zB HB) hb); clear hb hbox hg)); try go_wp2_with (first | ((with_reducible refine gate_dst (N := 3) rfl ?_); refine zX (N := 3) (cs := #[.int .i64 a1_0, .int .i64 a1_1]) (t := 42) ?_; intro gb234 hg w3 hbox hb; have BK234 := Aside0.mk (hbox); have GW234 := Aside0.mk (zW hg HB); have GE234 := Aside0.mk (zW hg HB); replace HB := Aside0.mk (below_step (zB HB) hb); clear hb hbox hg)))
 go_loopg [8] k (fun kq v8 w' => ∃ (x8_1 : Int), v8 = .int .i64 x8_1 ∧ Aside0 (api_Pair_87.l0 kq l0 (l0.length : Int) x8_1 a1_0 a1_1 = some r) ∧ Aside0 (kq ≤ k) ∧ Aside0 (w'.heap[gb234]? = some (.cells #[.int .i64 a1_0, .int .i64 a1_1] 42 (0, 0))) ∧ Aside0 (Below w.heap.size w w'))
 case atStart => exact ⟨(0), zv, H', ⟨Nat.le_refl _⟩, ⟨zK BK234⟩, ⟨zB HB⟩⟩
 case round =>
  clear H'; try clear p2
  obtain ⟨x8_1, rfl, HA, HK1, BK234, HB⟩ := hrel; cases gk with
  | zero => exact absurd HA.out (by simp [api_Pair_87.l0])
  | succ k1 =>
   have H := HA.out; clear HA; simp only [api_Pair_87.l0] at H; by_cases c4 : x8_1 < (l0.length : Int)
   · rw [if_pos c4] at H; have c4b0 : decide (x8_1 < (l0.length : Int)) = true := decide_eq_true c4; clear c4; by_cases c5 : 0 ≤ x8_1
     · rw [if_pos c5] at H; have c5b0 : decide (0 ≤ x8_1) = true := decide_eq_true c5; clear c5; by_cases c6 : x8_1 < (l0.length : Int)
       · rw [if_pos c6] at H; have c6b0 : decide (x8_1 < (l0.length : Int)) = true := decide_eq_true c6; clear c6; by_cases c7 : (a1_0 == ((rd_T42 l0 x8_1).f0) && (a1_1 == ((rd_T42 l0 x8_1).f1))) = true
         · rw [if_pos c7] at H; have c7b0 : (a1_0 == ((rd_T42 l0 x8_1).f0) && (a1_1 == ((rd_T42 l0 x8_1).f1))) = true := c7; (try (have c7b1 : decide (a1_0 = ((rd_T42 l0 x8_1).f0) && (a1_1 == ((rd_T42 l0 x8_1).f1))) = true := by simpa using c7)); (try (have c7b2 : (a1_0 == ((rd_T42 l0 x8_1).f0) && (a1_1 == ((rd_T42 l0 x8_1).f1))) = true := by simpa using c7)); clear c7; obtain rfl := Option.some.inj H; have hcz8_0 := zc BK234 0; have hcz8_1 := zc BK234 1; have hfz8_0 := blk_frozen BK234.out 0; have hfz8_1 := blk_frozen BK234.out 1; have p235 : 0 ≤ (x8_1 : Int) := of_decide_eq_true (by first | (with_reducible assumption) | assumption); have q235 : x8_1 < (l0.length : Int) := of_decide_eq_true (by first | (with_reducible assumption) | assumption); obtain ⟨ad235, e235, hx235_0, hx235_1⟩ := at_T42 HR0.out x8_1 p235 q235; cases e235; replace hx235_0 := (HB.out.cell (World.block_lt_of_cell? w _ hx235_0)).trans hx235_0; replace hx235_1 := (HB.out.cell (World.block_lt_of_cell? w _ hx235_1)).trans hx235_1; replace p235 := eq_true p235; replace q235 := eq_true q235; go_wp2; repeat (go_quiet (fail); try go_wp2)
           go_ret; exact ⟨by first | rfl | (simp [errW_none, errW_some] <;> rfl) | (simp [*, errW_none, errW_some] <;> rfl), zB HB⟩
         · rw [if_neg c7] at H; have c7b0 : (a1_0 == ((rd_T42 l0 x8_1).f0) && (a1_1 == ((rd_T42 l0 x8_1).f1))) = false := by simpa using c7
           (try (have c7b1 : decide (a1_0 = ((rd_T42 l0 x8_1).f0) && (a1_1 == ((rd_T42 l0 x8_1).f1))) = false := by simpa using c7)); (try (have c7b2 : (a1_0 == ((rd_T42 l0 x8_1).f0) && (a1_1 == ((rd_T42 l0 x8_1).f1))) = false := by simpa using c7)); (try (have c7b3 : ¬ (a1_0 = ((rd_T42 l0 x8_1).f0) && (a1_1 == ((rd_T42 l0 x8_1).f1))) := by simpa using c7)); clear c7; have H' := Aside0.mk H; clear H; have hcz9_0 := zc BK234 0; have hcz9_1 := zc BK234 1; have hfz9_0 := blk_frozen BK234.out 0; have hfz9_1 := blk_frozen BK234.out 1; have p235 : 0 ≤ (x8_1 : Int) := of_decide_eq_true (by first | (with_reducible assumption) | assumption); have q235 : x8_1 < (l0.length : Int) := of_decide_eq_true (by first | (with_reducible assumption) | assumption); obtain ⟨ad235, e235, hx235_0, hx235_1⟩ := at_T42 HR0.out x8_1 p235 q235; cases e235; replace hx235_0 := (HB.out.cell (World.block_lt_of_cell? w _ hx235_0)).trans hx235_0; replace hx235_1 := (HB.out.cell (World.block_lt_of_cell? w _ hx235_1)).trans hx235_1; replace p235 := eq_true p235; replace q235 := eq_true q235; go_wp2; repeat (go_quiet (fail); try go_wp2)
           go_roundg k1
           case measure => have := HK1.out; omega
           case rel => exact ⟨(wrap64 (x8_1 + 1)), zv, H', ⟨by have := HK1.out; omega⟩, ⟨zK BK234⟩, ⟨zB HB⟩⟩
       · rw [if_neg c6] at H; exact absurd H (by simp)
     · rw [if_neg c5] at H; exact absurd H (by simp)
   · rw [if_neg c4] at H; have c4b0 : decide (x8_1 < (l0.length : Int)) = false := decide_eq_false c4; clear c4; obtain rfl := Option.some.inj H; go_wp2; repeat (go_quiet (fail); try go_wp2)
     go_ret; exact ⟨by first | rfl | (simp [errW_none, errW_some] <;> rfl) | (simp [*, errW_none, errW_some] <;> rfl), zB HB⟩
end Go.Proofs.YtjmdlmogdbhdhaaDoor.P
namespace Go.Proofs.YtjmdlmogdbhdhaaDoor.P
open Go.RowKit Go.Proofs.YtjmdlmogdbhdhaaDoorW.PrintWords Go.Proofs.YtjmdlmogdbhdhaaDoorW.PrintLast Go.Proofs.YtjmdlmogdbhdhaaDoorW.PrintMore
attribute [local go_sem] max2_int min2_int max_two min_two max_three min_three max_four min_four
set_option linter.unusedVariables false
set_option linter.unusedSimpArgs false
def api_Pair_71.f (k : Nat) (l0 : List (S42)) (a1_0 : Int) (a1_1 : Int) : Option (Bool) := (api_Pair_87.f k l0 a1_0 a1_1).bind fun t237 => (some (decide (t237 ≥ 0)))
set_option maxHeartbeats 8000000 in
set_option maxRecDepth 100000 in
theorem api_Pair_71.calls (k : Nat) (A0 : Option Addr) (c0 : Nat) (l0 : List (S42)) (a1_0 : Int) (a1_1 : Int) (r : Bool) (w : World) (hr0 : Kd.C k42 w A0 l0.length l0) (hc0 : l0.length ≤ c0) (h : api_Pair_71.f k l0 a1_0 a1_1 = some r) :
 Calls Tryd.prog 71 #[.slice A0 l0.length c0, .agg #[.int .i64 a1_0, .int .i64 a1_1]] w fun e w' => e = .returned (.bool r) ∧ Below w.heap.size w w' := by
 have hu42 := Tryd.underlying42; have HR0 := Aside0.mk hr0; have HC0 := Aside0.mk hc0; clear hr0 hc0; have HB := Aside0.mk (Below.refl w.heap.size w); have H : ((api_Pair_87.f k l0 a1_0 a1_1).bind fun t237 => (some (decide (t237 ≥ 0)))) = some r := h; clear h; replace H := Option.bind_eq_some_iff.mp H; obtain ⟨t237, A30, H⟩ := H; replace H : (some (decide (t237 ≥ 0))) = some r := H; have A3 := Aside0.mk A30; clear A30; obtain rfl := Option.some.inj H; go_enter Tryd.func71, Tryd.ntmps71; go_wp2_with (first | ((with_reducible refine gate_dst (N := 3) rfl ?_); refine zX (N := 3) (cs := #[.int .i64 a1_0, .int .i64 a1_1]) (t := 42) ?_; intro gb236 hg w4 hbox hb; have BK236 := Aside0.mk (hbox); have GW236 := Aside0.mk (zW hg HB); have GE236 := Aside0.mk (zW hg HB); replace HB := Aside0.mk (below_step (zB HB) hb); clear hb hbox hg; have hcz5_0 := zc BK236 0; have hcz5_1 := zc BK236 1; have hfz5_0 := blk_frozen BK236.out 0; have hfz5_1 := blk_frozen BK236.out 1) | ((with_reducible refine gate_callee (f := 87) rfl ?_); refine zG (some 7) rfl Tryd.func87 #[.slice A0 l0.length c0, .agg #[.int .i64 a1_0, .int .i64 a1_1]] ?_; (with_reducible refine (api_Pair_87.calls k _ _ l0 a1_0 a1_1 t237 _ ?side1 ?side2 A3.out).mono ?_); (case side1 => exact zCb HR0 HB); (case side2 => exact HC0.out); rintro e w6 ⟨rfl, hb⟩; refine ⟨_, rfl, ?_⟩; replace BK236 := Aside0.mk (zKb BK236 hb); replace HB := Aside0.mk (below_step (zB HB) hb); (try clear hb); (try clear hb2); (try clear hk); (try clear hi))); go_ret; exact ⟨by first | rfl | (simp [errW_none, errW_some] <;> rfl) | (simp [*, errW_none, errW_some] <;> rfl), zB HB⟩
end Go.Proofs.YtjmdlmogdbhdhaaDoor.P
namespace Go.Proofs.YtjmdlmogdbhdhaaDoor.P
open Go.RowKit Go.Proofs.YtjmdlmogdbhdhaaDoorW.PrintWords Go.Proofs.YtjmdlmogdbhdhaaDoorW.PrintLast Go.Proofs.YtjmdlmogdbhdhaaDoorW.PrintMore
attribute [local go_sem] max2_int min2_int max_two min_two max_three min_three max_four min_four
set_option linter.unusedVariables false
set_option linter.unusedSimpArgs false
open Go.ChangeMaps (setBlock)
def eqP (x y : S42) : Bool := x.f0 == y.f0 && x.f1 == y.f1
theorem idx_l0 (x : S42) (l : List S42) (hl : l.length ≤ 9223372036854775807) : ∀ (n i : Nat), n + i = l.length → ∃ r, api_Pair_87.l0 (n + 1) l (l.length : Int) (i : Int) x.f0 x.f1 = some r ∧ decide (r ≥ 0) = (l.drop i).any (eqP x)
 | 0, i, h => by
  refine ⟨-1, ?_, ?_⟩
  · unfold api_Pair_87.l0
    rw [if_neg (by omega)]
  · rw [List.drop_eq_nil_of_le (by omega)]
    rfl
 | n + 1, i, h => by
  obtain ⟨r, h1, h2⟩ := idx_l0 x l hl n (i + 1) (by omega)
  have hd := rd_drop l i (by omega)
  have hw : wrap64 ((i : Int) + 1) = ((i + 1 : Nat) : Int) := by unfold wrap64; omega
  unfold api_Pair_87.l0
  rw [if_pos (by omega), if_pos (by omega), if_pos (by omega)]
  rw [hd, List.any_cons]
  by_cases he : eqP x (rd_T42 l i) = true
  · have he' := he
    unfold eqP at he'
    rw [if_pos he']
    exact ⟨_, rfl, by simp [he]⟩
  · have he' := he
    unfold eqP at he'
    rw [if_neg he', hw]
    exact ⟨r, h1, by simp [he, h2]⟩
theorem has_f (x : S42) (l : List S42) (hl : l.length ≤ 9223372036854775807) : api_Pair_71.f (l.length + 1) l x.f0 x.f1 = some (l.any (eqP x)) := by
 obtain ⟨r, h1, h2⟩ := idx_l0 x l hl l.length 0 (by simp); unfold api_Pair_71.f api_Pair_87.f; rw [show (0 : Int) = ((0 : Nat) : Int) from rfl, h1]; simpa using h2
set_option maxHeartbeats 1000000 in
theorem lit70 (gl : Nat) (A : Option Addr) (c : Nat) (l : List S42) (x : S42) (w : World) (hb : w.heap[gl]? = some (.cells #[.slice A l.length c] 22 (0, 0))) (hr : Kd.C k42 w A l.length l) (hc : l.length ≤ c) :
 Calls Tryd.prog 70 #[.agg #[.int .i64 x.f0, .int .i64 x.f1], .pointer (some ⟨gl, 0, none⟩)] w fun e w' => e = .returned (.bool (!l.any (eqP x))) ∧ Below w.heap.size w w' := by
 have hu42 := Tryd.underlying42; have hl := hr.2.1; have HF := has_f x l hl; have HR := Aside0.mk hr; have HC := Aside0.mk hc; clear hr hc hl; have hcz := (blk_cell (blk_alloc hb (.cells #[.int .i64 x.f0, .int .i64 x.f1] 42)) 0).trans (show _ = some (.slice A l.length c) from rfl); generalize l.any (eqP x) = b at HF ⊢; go_enter Tryd.func70, Tryd.ntmps70; go_wp2_with (go_at_call 71; go_must (refine (api_Pair_71.calls _ _ _ l x.f0 x.f1 b _ (Kd.C_below HR.out (below_alloc (Below.refl _ _) _)) HC.out HF).mono ?_; rintro e w' ⟨rfl, hb'⟩)); go_ret; exact ⟨rfl, below_step (below_alloc (Below.refl _ _) _) hb'⟩
set_option maxHeartbeats 2000000 in
theorem idx86 (gl : Nat) (p : S42 → Bool) (A : Option Addr) (c : Nat) (l : List S42) (w : World) (hr : Kd.C k42 w A l.length l) (hc : l.length ≤ c)
 (hp : ∀ W (x : S42), Below w.heap.size w W → Calls Tryd.prog 70 #[.agg #[.int .i64 x.f0, .int .i64 x.f1], .pointer (some ⟨gl, 0, none⟩)] W fun e w' => e = .returned (.bool (p x)) ∧ Below w.heap.size w w') :
 Calls Tryd.prog 86 #[.slice A l.length c, .func (.func 70) #[] #[.pointer (some ⟨gl, 0, none⟩)]] w fun e w' => ∃ r : Int, e = .returned (.int .i64 r) ∧ decide (r ≥ 0) = l.any p ∧ Below w.heap.size w w' := by
 have hu42 := Tryd.underlying42; have HR := Aside0.mk hr; have HC := Aside0.mk hc; have HP := Aside0.mk hp; clear hr hc hp; go_enter Tryd.func86, Tryd.ntmps86; go_wp2; go_loopg [5, 8] l.length (fun kq _ v8 w' => ∃ i : Nat, v8 = .int .i64 i ∧ Aside0 (kq + i = l.length) ∧ Aside0 (Below w.heap.size w w') ∧ Aside0 (l.any p = (l.drop i).any p))
 case atStart => exact ⟨0, rfl, ⟨rfl⟩, ⟨Below.refl _ _⟩, ⟨rfl⟩⟩
 case round =>
  obtain ⟨i, rfl, HI, HB, HA⟩ := hrel; cases gk with
  | zero =>
   have hi : i = l.length := by have := HI.out; omega
   subst hi; have hi1 : decide ((l.length : Int) < (l.length : Int)) = false := by simp
   have hi0 : decide (l.length < l.length) = false := by simp
   go_wp2; go_ret; exact ⟨-1, rfl, by rw [HA.out, List.drop_length]; rfl, HB.out⟩
  | succ k1 =>
   have hi : i < l.length := by have := HI.out; omega
   have hl : l.length ≤ 9223372036854775807 := HR.out.2.1; obtain ⟨ad, e0, hx0, hx1⟩ := at_T42 (Kd.C_below HR.out HB.out) (i : Int) (by omega) (by omega); simp only [Int.toNat_natCast] at hx0 hx1; have hi0 : decide (i < l.length) = true := decide_eq_true hi; have hi1 : decide ((i : Int) < (l.length : Int)) = true := decide_eq_true (by omega); cases e0; have HS := Aside0.mk (rd_drop l i hi); generalize rd_T42 l i = x at HS hx0 hx1; have hcall := HP.out wr x HB.out; cases hq : p x with
   | true =>
    rw [hq] at hcall; have HQ := Aside0.mk hq; clear hq; go_wp2_with fail; refine hcall.mono ?_; rintro e w' ⟨rfl, hb'⟩; go_wp2; go_ret; exact ⟨(i : Int), rfl, by rw [HA.out, HS.out]; simp [HQ.out], hb'⟩
   | false =>
    rw [hq] at hcall; have HQ := Aside0.mk hq; clear hq; go_wp2_with fail; refine hcall.mono ?_; rintro e w' ⟨rfl, hb'⟩; go_wp2; go_roundg k1
    case measure => omega
    case rel => exact ⟨i + 1, by go_num, ⟨by have := HI.out; omega⟩, ⟨hb'⟩, ⟨by rw [HA.out, HS.out]; simp [HQ.out]⟩⟩
set_option maxHeartbeats 2000000 in
theorem cont69 (gl : Nat) (p : S42 → Bool) (A : Option Addr) (c : Nat) (l : List S42) (w : World) (hr : Kd.C k42 w A l.length l) (hc : l.length ≤ c)
 (hp : ∀ W (x : S42), Below w.heap.size w W → Calls Tryd.prog 70 #[.agg #[.int .i64 x.f0, .int .i64 x.f1], .pointer (some ⟨gl, 0, none⟩)] W fun e w' => e = .returned (.bool (p x)) ∧ Below w.heap.size w w') :
 Calls Tryd.prog 69 #[.slice A l.length c, .func (.func 70) #[] #[.pointer (some ⟨gl, 0, none⟩)]] w fun e w' => e = .returned (.bool (l.any p)) ∧ Below w.heap.size w w' := by
 have HH := Aside0.mk (idx86 gl p A c l w hr hc hp); clear hr hc hp; go_enter Tryd.func69, Tryd.ntmps69; go_wp2_with (go_at_call 86; refine HH.out.mono ?_; rintro e w' ⟨r, rfl, hr, hb'⟩); go_ret; exact ⟨by rw [← hr]; rfl, hb'⟩
set_option maxHeartbeats 2000000 in
theorem lit68 (gl : Nat) (A : Option Addr) (c : Nat) (l : List S42) (Ad : Option Addr) (cd : Nat) (d : List S42) (w : World) (hb : w.heap[gl]? = some (.cells #[.slice A l.length c] 22 (0, 0))) (hr : Kd.C k42 w A l.length l) (hc : l.length ≤ c)
 (hrd : Kd.C k42 w Ad d.length d) (hcd : d.length ≤ cd) :
 Calls Tryd.prog 68 #[.slice Ad d.length cd, .pointer (some ⟨gl, 0, none⟩)] w fun e w' => e = .returned (.bool (!d.any fun x => !l.any (eqP x))) ∧ Below w.heap.size w w' := by
 have HH := Aside0.mk (cont69 gl (fun x => !l.any (eqP x)) Ad cd d w hrd hcd (fun W x hB => (lit70 gl A c l x W ((hB.block gl (lt_of_blk hb)).trans hb) (Kd.C_below hr hB) hc).mono (fun e w' h => ⟨h.1, below_step hB h.2⟩))); clear hb hr hc hrd hcd; go_enter Tryd.func68, Tryd.ntmps68; go_wp2_with (go_at_call 69; refine HH.out.mono ?_; rintro e w' ⟨rfl, hb'⟩); go_ret; exact ⟨rfl, hb'⟩
set_option maxHeartbeats 2000000 in
theorem idx85 (gl : Nat) (p : List S42 → Bool) (A : Option Addr) (c : Nat) (l : List (List S42)) (w : World) (hr : Kd.C (Kd.slice 42 k42) w A l.length l) (hc : l.length ≤ c)
 (hp : ∀ W (Ad : Option Addr) (cd : Nat) (d : List S42), Below w.heap.size w W → Kd.C k42 W Ad d.length d → d.length ≤ cd → Calls Tryd.prog 68 #[.slice Ad d.length cd, .pointer (some ⟨gl, 0, none⟩)] W fun e w' => e = .returned (.bool (p d)) ∧ Below w.heap.size w w') :
 Calls Tryd.prog 85 #[.slice A l.length c, .func (.func 68) #[] #[.pointer (some ⟨gl, 0, none⟩)]] w fun e w' => ∃ r : Int, e = .returned (.int .i64 r) ∧ decide (r ≥ 0) = l.any p ∧ Below w.heap.size w w' := by
 have HR := Aside0.mk hr; have HC := Aside0.mk hc; have HP := Aside0.mk hp; clear hr hc hp; go_enter Tryd.func85, Tryd.ntmps85; go_wp2; go_loopg [5, 8] l.length (fun kq _ v8 w' => ∃ i : Nat, v8 = .int .i64 i ∧ Aside0 (kq + i = l.length) ∧ Aside0 (Below w.heap.size w w') ∧ Aside0 (l.any p = (l.drop i).any p))
 case atStart => exact ⟨0, rfl, ⟨rfl⟩, ⟨Below.refl _ _⟩, ⟨rfl⟩⟩
 case round =>
  obtain ⟨i, rfl, HI, HB, HA⟩ := hrel; cases gk with
  | zero =>
   have hi : i = l.length := by have := HI.out; omega
   subst hi; have hi1 : decide ((l.length : Int) < (l.length : Int)) = false := by simp
   have hi0 : decide (l.length < l.length) = false := by simp
   go_wp2; go_ret; exact ⟨-1, rfl, by rw [HA.out, List.drop_length]; rfl, HB.out⟩
  | succ k1 =>
   have hi : i < l.length := by have := HI.out; omega
   have hl : l.length ≤ 9223372036854775807 := HR.out.2.1; obtain ⟨ad, Ad, cd, e0, hx0, hx1, hx2⟩ := at_L2 (Kd.C_below HR.out HB.out) (i : Int) (by omega) (by omega); simp only [Int.toNat_natCast] at hx0; have hi0 : decide (i < l.length) = true := decide_eq_true hi; have hi1 : decide ((i : Int) < (l.length : Int)) = true := decide_eq_true (by omega); cases e0; have HS : Aside0 (l.drop i = rd_L2 l i :: l.drop (i + 1)) := ⟨by rw [List.drop_eq_getElem_cons hi]; simp [rd_L2, hi]⟩; generalize rd_L2 l i = x at HS hx0 hx1 hx2; have hcall := HP.out wr Ad cd x HB.out hx2 hx1; clear hx2 hx1; cases hq : p x with
   | true =>
    rw [hq] at hcall; have HQ := Aside0.mk hq; clear hq; go_wp2_with fail; refine hcall.mono ?_; rintro e w' ⟨rfl, hb'⟩; go_wp2; go_ret; exact ⟨(i : Int), rfl, by rw [HA.out, HS.out]; simp [HQ.out], hb'⟩
   | false =>
    rw [hq] at hcall; have HQ := Aside0.mk hq; clear hq; go_wp2_with fail; refine hcall.mono ?_; rintro e w' ⟨rfl, hb'⟩; go_wp2; go_roundg k1
    case measure => omega
    case rel => exact ⟨i + 1, by go_num, ⟨by have := HI.out; omega⟩, ⟨hb'⟩, ⟨by rw [HA.out, HS.out]; simp [HQ.out]⟩⟩
def covP (all : List (List S42)) (l : List S42) : Bool := all.any fun d => !d.any fun x => !l.any (eqP x)
set_option maxHeartbeats 2000000 in
theorem cont67 (gl : Nat) (A : Option Addr) (c : Nat) (l : List S42) (Aa : Option Addr) (ca : Nat) (all : List (List S42)) (w : World) (hb : w.heap[gl]? = some (.cells #[.slice A l.length c] 22 (0, 0))) (hr : Kd.C k42 w A l.length l) (hc : l.length ≤ c)
 (hra : Kd.C (Kd.slice 42 k42) w Aa all.length all) (hca : all.length ≤ ca) :
 Calls Tryd.prog 67 #[.slice Aa all.length ca, .func (.func 68) #[] #[.pointer (some ⟨gl, 0, none⟩)]] w fun e w' => e = .returned (.bool (covP all l)) ∧ Below w.heap.size w w' := by
 have HH := Aside0.mk (idx85 gl (fun d => !d.any fun x => !l.any (eqP x)) Aa ca all w hra hca (fun W Ad cd d hB h1 h2 => (lit68 gl A c l Ad cd d W ((hB.block gl (lt_of_blk hb)).trans hb) (Kd.C_below hr hB) hc h1 h2).mono (fun e w' h => ⟨h.1, below_step hB h.2⟩))); clear hb hr hc hra hca; go_enter Tryd.func67, Tryd.ntmps67; go_wp2_with (go_at_call 85; refine HH.out.mono ?_; rintro e w' ⟨r, rfl, hr, hb'⟩); go_ret; exact ⟨by unfold covP; rw [← hr]; rfl, hb'⟩
def prSeen : List S42 → List (S42 × Bool) → Option (List (S42 × Bool))
 | [], m => some m
 | p :: r, m => if mget m p = true then none else prSeen r (mput m p true)
def prAll : List (List S42) → List (S42 × Bool) → Option (List (S42 × Bool))
 | [], m => some m
 | l :: r, m => (prSeen l m).bind fun m2 => prAll r m2
def enforce_proves.f (k : Nat) (a0_0 : Int) (l0_1 : List S42) (a1 : Int) (l2_0 : List Int) (l2_1 : List S42) (l2_2 : List (List S42)) : Option Bool :=
 if l2_2.length = l2_1.length then (match prAll l2_2 [] with | none => some false | some _ => (enforce_duties.f k a0_0 l0_1 l2_0 a1).bind fun all => some (l2_2.all (covP all))) else some false
set_option maxHeartbeats 8000000 in
set_option maxRecDepth 100000 in
theorem enforce_proves.calls (k : Nat) (a0_0 : Int) (A0_1 : Option Addr) (c0_1 : Nat) (l0_1 : List S42) (a1 : Int) (A2_0 : Option Addr) (c2_0 : Nat) (l2_0 : List Int) (A2_1 : Option Addr) (c2_1 : Nat) (l2_1 : List S42) (A2_2 : Option Addr) (c2_2 : Nat) (l2_2 : List (List S42)) (r : Bool) (w : World) (hr0_1 : Kd.C k42 w A0_1 l0_1.length l0_1) (hc0_1 : l0_1.length ≤ c0_1) (hr2_0 : Kd.C (Kd.int .i64) w A2_0 l2_0.length l2_0) (hc2_0 : l2_0.length ≤ c2_0) (hr2_1 : Kd.C k42 w A2_1 l2_1.length l2_1) (hc2_1 : l2_1.length ≤ c2_1) (hr2_2 : Kd.C (Kd.slice 42 k42) w A2_2 l2_2.length l2_2) (hc2_2 : l2_2.length ≤ c2_2) (hT : TabT w) (h : enforce_proves.f k a0_0 l0_1 a1 l2_0 l2_1 l2_2 = some r) :
 Calls Tryd.prog 39 #[.agg #[.int .i64 a0_0, .slice A0_1 l0_1.length c0_1], .int .i64 a1, .agg #[.slice A2_0 l2_0.length c2_0, .slice A2_1 l2_1.length c2_1, .slice A2_2 l2_2.length c2_2]] w fun e w' => e = .returned (.bool r) ∧ Below w.heap.size w w' := by
 have hu24 := Tryd.underlying24; have hu28 := Tryd.underlying28; have hu42 := Tryd.underlying42; have HTab := Aside0.mk hT; have HR0 := Aside0.mk hr0_1; have HC0 := Aside0.mk hc0_1; have HR20 := Aside0.mk hr2_0; have HC20 := Aside0.mk hc2_0; have HR22 := Aside0.mk hr2_2; have HC22 := Aside0.mk hc2_2; clear hr0_1 hc0_1 hr2_0 hc2_0 hr2_1 hc2_1 hr2_2 hc2_2 hT; have HY := Aside0.mk h; clear h; go_enter Tryd.func39, Tryd.ntmps39; by_cases hlen : l2_2.length = l2_1.length
 case neg =>
  have HY2 := HY.out; unfold enforce_proves.f at HY2; rw [if_neg hlen] at HY2; obtain rfl := Option.some.inj HY2; have hn1 : decide (l2_2.length = l2_1.length) = false := decide_eq_false hlen; have hn2 : ¬ ((l2_2.length : Int) = (l2_1.length : Int)) := by omega
  go_wp2; go_ret; exact ⟨rfl, below_alloc (below_alloc (Below.refl _ _) _) _⟩
 case pos =>
  have HY2 := HY.out; unfold enforce_proves.f at HY2; rw [if_pos hlen] at HY2; clear HY; have HY := Aside0.mk HY2; clear HY2; have hn1 : l2_1.length = l2_2.length := hlen.symm; clear hlen; have hmm := @run_makeMap Tryd.prog; go_upto_region 4 with (fail)
  clear hmm hn1
  have T0 : TW w ((w.alloc (.cells #[.int .i64 a0_0, .slice A0_1 l0_1.length c0_1] 24)).alloc (.cells #[.slice A2_0 l2_0.length c2_0, .slice A2_1 l2_2.length c2_1, .slice A2_2 l2_2.length c2_2] 28)) w.heap.size (w.heap.size + 1) (.cells #[.int .i64 a0_0, .slice A0_1 l0_1.length c0_1] 24 (0, 0)) (.cells #[.slice A2_0 l2_0.length c2_0, .slice A2_1 l2_2.length c2_1, .slice A2_2 l2_2.length c2_2] 28 (0, 0)) :=
   ⟨below_alloc (below_alloc (Below.refl _ _) _) _, blk_alloc (blk_new w _) _, by have := blk_new (w.alloc (.cells #[.int .i64 a0_0, .slice A0_1 l0_1.length c0_1] 24)) (.cells #[.slice A2_0 l2_0.length c2_0, .slice A2_1 l2_2.length c2_1, .slice A2_2 l2_2.length c2_2] 28 (0, 0)); simpa using this⟩
  have M0 : MapIs (((w.alloc (.cells #[.int .i64 a0_0, .slice A0_1 l0_1.length c0_1] 24)).alloc (.cells #[.slice A2_0 l2_0.length c2_0, .slice A2_1 l2_2.length c2_1, .slice A2_2 l2_2.length c2_2] 28)).alloc (.map #[] 0)) (w.heap.size + 1 + 1) [] := by
   have := blk_new ((w.alloc (.cells #[.int .i64 a0_0, .slice A0_1 l0_1.length c0_1] 24)).alloc (.cells #[.slice A2_0 l2_0.length c2_0, .slice A2_1 l2_2.length c2_1, .slice A2_2 l2_2.length c2_2] 28)) (.map #[] 0); simpa [MapIs, mEsL] using this
  have T2 := Aside0.mk (T0.alloc (.map #[] 0)); have M2 := Aside0.mk M0; clear T0 M0; have BM : Aside0 (w.heap.size ≤ w.heap.size + 1 + 1) := ⟨by omega⟩; have BN : Aside0 (w.heap.size + 1 + 1 ≠ w.heap.size) := ⟨by omega⟩; have BR : Aside0 (w.heap.size + 1 + 1 ≠ w.heap.size + 1) := ⟨by omega⟩; generalize (((w.alloc (.cells #[.int .i64 a0_0, .slice A0_1 l0_1.length c0_1] 24)).alloc (.cells #[.slice A2_0 l2_0.length c2_0, .slice A2_1 l2_2.length c2_1, .slice A2_2 l2_2.length c2_2] 28)).alloc (.map #[] 0)) = w2 at T2 M2 ⊢; generalize w.heap.size + 1 + 1 = bm at M2 BM BN BR ⊢; generalize w.heap.size + 1 = gr at T2 BR ⊢; generalize hgb : w.heap.size = gb at T2 BN ⊢; clear hgb; have hcz0 : w2.cell? ⟨gr, 2, none⟩ = some (.slice A2_2 l2_2.length c2_2) := (blk_cell T2.out.br 2).trans rfl; go_wp2_with fail; clear hcz0; go_loopg [26] l2_2.length (fun kq v26 w' => ∃ (i : Nat) (m : List (S42 × Bool)), v26 = .int .i64 i ∧ Aside0 (kq + i = l2_2.length) ∧ Aside0 (TW w w' gb gr (.cells #[.int .i64 a0_0, .slice A0_1 l0_1.length c0_1] 24 (0, 0)) (.cells #[.slice A2_0 l2_0.length c2_0, .slice A2_1 l2_2.length c2_1, .slice A2_2 l2_2.length c2_2] 28 (0, 0))) ∧ Aside0 (MapIs w' bm m) ∧ Aside0 (prAll (l2_2.drop i) m = prAll l2_2 []))
  case atStart => exact ⟨0, [], rfl, ⟨rfl⟩, T2, M2, ⟨rfl⟩⟩
  case round =>
   clear T2 M2; obtain ⟨i, m, rfl, HI, T2, M2, HA⟩ := hrel; cases gk with
   | succ k1 =>
    have hi : i < l2_2.length := by have := HI.out; omega
    have hl : l2_2.length ≤ 9223372036854775807 := HR22.out.2.1; obtain ⟨ad, Ad, cd, e0, hx0, hx1, hx2⟩ := at_L2 HR22.out (i : Int) (by omega) (by omega); simp only [Int.toNat_natCast] at hx0; have hi0 : decide (i < l2_2.length) = true := decide_eq_true hi; have hi1 : decide ((i : Int) < (l2_2.length : Int)) = true := decide_eq_true (by omega); cases e0; have HS : Aside0 (l2_2.drop i = rd_L2 l2_2 i :: l2_2.drop (i + 1)) := ⟨by rw [List.drop_eq_getElem_cons hi]; simp [rd_L2, hi]⟩; generalize rd_L2 l2_2 i = l at HS hx0 hx1 hx2; replace hx0 := (T2.out.hb.cell (World.block_lt_of_cell? w _ hx0)).trans hx0; have HX2 := Aside0.mk hx2; have hll : l.length ≤ 9223372036854775807 := hx2.2.1; have HLL := Aside0.mk hll; clear hx2 hx1 hll; rw [HS.out] at HA; go_wp2_with fail; clear hx0 hi0 hi1; go_loopg [32] l.length (fun kq v32 w' => ∃ (j : Nat) (m2 : List (S42 × Bool)), v32 = .int .i64 j ∧ Aside0 (kq + j = l.length) ∧ Aside0 (TW w w' gb gr (.cells #[.int .i64 a0_0, .slice A0_1 l0_1.length c0_1] 24 (0, 0)) (.cells #[.slice A2_0 l2_0.length c2_0, .slice A2_1 l2_2.length c2_1, .slice (some ad) l2_2.length c2_2] 28 (0, 0))) ∧ Aside0 (MapIs w' bm m2) ∧ Aside0 (((prSeen (l.drop j) m2).bind fun m3 => prAll (l2_2.drop (i + 1)) m3) = prAll l2_2 []))
    case atStart => exact ⟨0, m, rfl, ⟨rfl⟩, T2, M2, HA⟩
    case round =>
     clear T2 M2 HA; obtain ⟨j, m2, rfl, HJ, T2, M2, HA⟩ := hrel; cases gk with
     | succ kj =>
      have hj : j < l.length := by have := HJ.out; omega
      have hl : l.length ≤ 9223372036854775807 := HLL.out; obtain ⟨ad2, e1, hy0, hy1⟩ := at_T42 (Kd.C_below HX2.out T2.out.hb) (j : Int) (by omega) (by omega); simp only [Int.toNat_natCast] at hy0 hy1; have hj0 : decide (j < l.length) = true := decide_eq_true hj; have hj1 : decide ((j : Int) < (l.length : Int)) = true := decide_eq_true (by omega); cases e1; have HSJ := Aside0.mk (rd_drop l j hj); go_upto_region 10 with (fail)
      have T3 := Aside0.mk (T2.out.alloc (.cells #[.int .i64 (rd_T42 l j).f0, .int .i64 (rd_T42 l j).f1] 42)); have M3 := Aside0.mk (M2.out.alloc (.cells #[.int .i64 (rd_T42 l j).f0, .int .i64 (rd_T42 l j).f1] 42)); have P3 := Aside0.mk (blk_new wr (.cells #[.int .i64 (rd_T42 l j).f0, .int .i64 (rd_T42 l j).f1] 42 (0, 0))); have PB : Aside0 (wr.heap.size ≠ bm) := ⟨Nat.ne_of_gt (lt_of_blk M2.out)⟩; clear T2 M2 hy0 hy1; generalize wr.alloc (.cells #[.int .i64 (rd_T42 l j).f0, .int .i64 (rd_T42 l j).f1] 42) = w3 at T3 M3 P3 ⊢; generalize wr.heap.size = gp at P3 PB ⊢; generalize rd_T42 l j = p at HSJ P3 ⊢; have hcz1 := zc P3 0; have hcz2 := zc P3 1; have hlk := lookup_run M3.out p; simp only [mKey] at hlk; rw [HSJ.out] at HA; cases hm : mget m2 p with
      | true =>
       rw [hm] at hlk; have HX := HY.out; rw [← HA.out] at HX; simp only [prSeen, hm, if_true, Option.bind_none] at HX; obtain rfl := Option.some.inj HX; clear HX; go_wp2; go_ret; exact ⟨rfl, T3.out.hb⟩
      | false =>
       rw [hm] at hlk; go_upto_region 12 with (fail)
       have hup1 := update_run M3.out p true; simp only [mKey] at hup1; have M4 := Aside0.mk (M3.out.put (mput m2 p true)); have T4 := Aside0.mk (T3.out.mset (.map (mEsL (mput m2 p true) 0).toArray (mput m2 p true).length) BM.out BN.out BR.out); clear T3 M3 P3; simp only [prSeen, hm, if_neg Bool.false_ne_true] at HA; generalize setBlock w3 bm (.map (mEsL (mput m2 p true) 0).toArray (mput m2 p true).length) = w5 at hup1 T4 M4; clear hlk; go_wp2; go_roundg kj
       case measure => omega
       case rel => exact ⟨j + 1, _, by go_num, ⟨by have := HJ.out; omega⟩, T4, M4, HA⟩
     | zero =>
      have hj : j = l.length := by have := HJ.out; omega
      subst hj; rw [List.drop_length] at HA; simp only [prSeen, Option.bind_some] at HA; have hj1 : decide ((l.length : Int) < (l.length : Int)) = false := by simp
      have hj0 : decide (l.length < l.length) = false := by simp
      go_wp2; go_roundg k1
      case measure => omega
      case rel => exact ⟨i + 1, m2, by go_num, ⟨by have := HI.out; omega⟩, T2, M2, HA⟩
   | zero =>
    have hi : i = l2_2.length := by have := HI.out; omega
    subst hi; rw [List.drop_length] at HA; simp only [prAll] at HA; have HX := HY.out; rw [← HA.out] at HX; clear HY HA; obtain ⟨all, hD, HX⟩ := Option.bind_eq_some_iff.1 HX; have HD := Aside0.mk hD; have HX := Aside0.mk (Option.some.inj HX); clear hD M2; have hi1 : decide ((l2_2.length : Int) < (l2_2.length : Int)) = false := by simp
    have hi0 : decide (l2_2.length < l2_2.length) = false := by simp
    have hcz0 : wr.cell? ⟨gb, 0, none⟩ = some (.int .i64 a0_0) := (blk_cell T2.out.bg 0).trans rfl; have hcz1 : wr.cell? ⟨gb, 1, none⟩ = some (.slice A0_1 l0_1.length c0_1) := (blk_cell T2.out.bg 1).trans rfl; have hcz2 : wr.cell? ⟨gr, 0, none⟩ = some (.slice A2_0 l2_0.length c2_0) := (blk_cell T2.out.br 0).trans rfl; go_wp2_with fail; refine (enforce_duties.calls k a0_0 _ _ l0_1 _ _ l2_0 a1 all wr (Kd.C_below HR0.out T2.out.hb) HC0.out (Kd.C_below HR20.out T2.out.hb) HC20.out (TabT.now HTab.out T2.out.hb) HD.out).mono ?_; rintro e wz ⟨va, rfl, hs, hb⟩; obtain ⟨Aa, ca, hva, hca, hra⟩ := Kd.S_reads hs; subst hva; have HRA := Aside0.mk hra; have HCA := Aside0.mk hca; have T3 := Aside0.mk (T2.out.step hb); have HZ : Aside0 (Below wz.heap.size wz wz) := ⟨Below.refl _ _⟩; clear hra hca T2 hs hb hcz0 hcz1 hcz2 HD hi0 hi1; have hcz2 : wz.cell? ⟨gr, 2, none⟩ = some (.slice A2_2 l2_2.length c2_2) := (blk_cell T3.out.br 2).trans rfl; go_wp2_with fail; clear hcz2; go_loopg [51] l2_2.length (fun kq v51 w' => ∃ (i : Nat), v51 = .int .i64 i ∧ Aside0 (kq + i = l2_2.length) ∧ Aside0 (TW w w' gb gr (.cells #[.int .i64 a0_0, .slice A0_1 l0_1.length c0_1] 24 (0, 0)) (.cells #[.slice A2_0 l2_0.length c2_0, .slice A2_1 l2_2.length c2_1, .slice A2_2 l2_2.length c2_2] 28 (0, 0))) ∧ Aside0 (Below wz.heap.size wz w') ∧ Aside0 ((l2_2.drop i).all (covP all) = r))
    case atStart => exact ⟨0, rfl, ⟨rfl⟩, T3, HZ, HX⟩
    case round =>
     clear T3 HZ HX HI; obtain ⟨i, rfl, HI, T3, HZ, HX⟩ := hrel; cases gk with
     | succ k1 =>
      have hi : i < l2_2.length := by have := HI.out; omega
      have hl : l2_2.length ≤ 9223372036854775807 := HR22.out.2.1; obtain ⟨ad, Ad, cd, e0, hx0, hx1, hx2⟩ := at_L2 HR22.out (i : Int) (by omega) (by omega); simp only [Int.toNat_natCast] at hx0; have hi0 : decide (i < l2_2.length) = true := decide_eq_true hi; have hi1 : decide ((i : Int) < (l2_2.length : Int)) = true := decide_eq_true (by omega); cases e0; have HS : Aside0 (l2_2.drop i = rd_L2 l2_2 i :: l2_2.drop (i + 1)) := ⟨by rw [List.drop_eq_getElem_cons hi]; simp [rd_L2, hi]⟩; generalize rd_L2 l2_2 i = l at HS hx0 hx1 hx2; replace hx0 := (T3.out.hb.cell (World.block_lt_of_cell? w _ hx0)).trans hx0; have HX2 := Aside0.mk hx2; have HX1 := Aside0.mk hx1; clear hx2 hx1; go_upto_region 19 with (fail)
      have T4 := Aside0.mk (T3.out.alloc (.cells #[.slice Ad l.length cd] 22)); have Z4 := Aside0.mk (below_alloc HZ.out (.cells #[.slice Ad l.length cd] 22)); have P4 := Aside0.mk (blk_new wr (.cells #[.slice Ad l.length cd] 22 (0, 0))); clear T3 HZ hx0; generalize wr.alloc (.cells #[.slice Ad l.length cd] 22) = w4 at T4 Z4 P4 ⊢; generalize wr.heap.size = gl at P4 ⊢; go_wp2_with fail; refine (cont67 gl Ad cd l Aa ca all w4 P4.out (Kd.C_below HX2.out T4.out.hb) HX1.out (Kd.C_below HRA.out Z4.out) HCA.out).mono ?_; rintro e w5 ⟨rfl, hb⟩; have T5 := Aside0.mk (T4.out.step hb); have Z5 := Aside0.mk (below_step Z4.out hb); clear T4 Z4 P4 hb; rw [HS.out, List.all_cons] at HX; cases hq : covP all l with
      | false =>
       rw [hq, Bool.false_and] at HX; obtain rfl := HX.out; go_wp2; go_ret; exact ⟨rfl, T5.out.hb⟩
      | true =>
       rw [hq, Bool.true_and] at HX; go_wp2; go_roundg k1
       case measure => omega
       case rel => exact ⟨i + 1, by go_num, ⟨by have := HI.out; omega⟩, T5, Z5, HX⟩
     | zero =>
      have hi : i = l2_2.length := by have := HI.out; omega
      subst hi; rw [List.drop_length] at HX; obtain rfl := HX.out; have hi1 : decide ((l2_2.length : Int) < (l2_2.length : Int)) = false := by simp
      have hi0 : decide (l2_2.length < l2_2.length) = false := by simp
      go_wp2; go_ret; exact ⟨rfl, T3.out.hb⟩
end Go.Proofs.YtjmdlmogdbhdhaaDoor.P
/- Plain facts: the duties of a set prove themselves. -/
namespace Go.Proofs.YtjmdlmogdbhdhaaDoor.P
open Go.RowKit Go.Proofs.YtjmdlmogdbhdhaaDoorW.PrintWords Go.Proofs.YtjmdlmogdbhdhaaDoorW.PrintLast Go.Proofs.YtjmdlmogdbhdhaaDoorW.PrintMore
theorem prSeen_ok : ∀ (l : List S42) (m : List (S42 × Bool)), l.Nodup → (∀ p ∈ l, mget m p = false) → ∃ m2, prSeen l m = some m2 ∧ ∀ q, mget m2 q = (mget m q || decide (q ∈ l))
  | [], m, _, _ => ⟨m, rfl, fun q => by simp⟩
  | p :: r, m, hn, hm => by
    rw [List.nodup_cons] at hn
    obtain ⟨m2, e, h⟩ := prSeen_ok r (mput m p true) hn.2 (fun q hq => by
      rw [mget_mput, if_neg (by rintro rfl; exact hn.1 hq)]
      exact hm q (by simp [hq]))
    refine ⟨m2, ?_, fun q => ?_⟩
    · simp only [prSeen, hm p (by simp), Bool.false_eq_true, if_false]
      exact e
    · rw [h, mget_mput]
      by_cases hq : q = p
      · simp [hq]
      · simp [hq]
theorem prAll_ok : ∀ (ls : List (List S42)) (m : List (S42 × Bool)), ls.flatten.Nodup → (∀ p ∈ ls.flatten, mget m p = false) → ∃ m2, prAll ls m = some m2
  | [], m, _, _ => ⟨m, rfl⟩
  | l :: r, m, hn, hm => by
    rw [List.flatten_cons, List.nodup_append] at hn
    obtain ⟨m2, e, h⟩ := prSeen_ok l m hn.1 (fun p hp => hm p (by simp [hp]))
    obtain ⟨m3, e3⟩ := prAll_ok r m2 hn.2.1 (fun p hp => by
      rw [h, hm p (by rw [List.flatten_cons]; exact List.mem_append_right _ hp), decide_eq_false (fun hl => hn.2.2 p hl p hp rfl)]
      rfl)
    exact ⟨m3, by simp only [prAll, e, Option.bind_some]; exact e3⟩
theorem covP_self {all : List (List S42)} {l : List S42} (h : l ∈ all) : covP all l = true := by
  unfold covP
  rw [List.any_eq_true]
  refine ⟨l, h, ?_⟩
  rw [Bool.not_eq_true', Bool.eq_false_iff]
  intro hh
  obtain ⟨x, hx, hn⟩ := List.any_eq_true.1 hh
  rw [Bool.not_eq_true', Bool.eq_false_iff] at hn
  exact hn (List.any_eq_true.2 ⟨x, hx, by simp [eqP]⟩)
theorem oneD_nodup {L : List S42} {s : List Int} {N : Int} (hs : SetL N s) (kind : Int) {a : Nat} (ha : ¬ (a : Int) ∈ s) (hs64 : ∀ x ∈ s, 0 ≤ x ∧ x < 64) : (oneD L s kind a).Nodup := by
  unfold oneD
  rw [(isP_perm _).nodup_iff]
  unfold rawD
  rw [List.nodup_append]
  refine ⟨?_, ?_, ?_⟩
  · rw [List.nodup_iff_pairwise_ne, List.pairwise_map]
    exact hs.2.imp fun h e => by injection e with e1; omega
  · split
    · rw [List.nodup_iff_pairwise_ne, List.pairwise_map]
      exact (lst_ord _).imp fun h e => by injection e with _ e1; omega
    · simp
  · intro p hp q hq
    rintro rfl
    obtain ⟨x, hx, rfl⟩ := List.mem_map.1 hp
    have h1 := (rawD_mem L s hs64 kind a ⟨x, (a : Int)⟩).1 (by unfold rawD; exact List.mem_append_right _ hq)
    split at hq
    · obtain ⟨y, hy, e⟩ := List.mem_map.1 hq
      injection e with e1 e2
      exact ha (by rw [e1]; exact hx)
    · cases hq
theorem oneD_end {L : List S42} {s : List Int} (hs64 : ∀ x ∈ s, 0 ≤ x ∧ x < 64) {kind : Int} {a : Nat} {p : S42} (hp : p ∈ oneD L s kind a) : (p.f0 ∈ s ∧ p.f1 = a) ∨ (p.f0 = a ∧ p.f1 ∈ s) := by
  rcases (oneD_mem L s hs64 kind a p).1 hp with h | ⟨_, h1, h2, _⟩
  · exact .inl h
  · exact .inr ⟨h1, h2⟩
theorem nodD_apart {L : List S42} {s : List Int} (hs64 : ∀ x ∈ s, 0 ≤ x ∧ x < 64) (kind : Int) : ∀ n i, (nodD L s kind n i).Pairwise (fun d e => ∀ x ∈ d, ∀ y ∈ e, x ≠ y)
  | 0, i => by simp [nodD]
  | n + 1, i => by
    have ih := nodD_apart hs64 kind (L := L) n (i + 1)
    simp only [nodD]
    by_cases hsk : skp L s kind i = true
    · rw [if_pos hsk]; exact ih
    · rw [if_neg hsk, List.pairwise_cons]
      refine ⟨fun e he x hx y hy => ?_, ih⟩
      obtain ⟨b, hb1, _, hbs, rfl⟩ := (nodD_mem L s kind e _ _).1 he
      have hi := skp_out (show skp L s kind i = false by simpa using hsk)
      have hb := skp_out hbs
      rintro rfl
      rcases oneD_end hs64 hx with ⟨h1, h2⟩ | ⟨h1, h2⟩ <;> rcases oneD_end hs64 hy with ⟨h3, h4⟩ | ⟨h3, h4⟩
      · omega
      · rw [h2] at h4; exact hi h4
      · rw [h1] at h3; exact hi h3
      · omega
theorem dut_flat {N : Int} {L : List S42} (hG : GoodG N L) {s : List Int} (hs : SetL N s) (kind : Int) : (dut N L s kind).flatten.Nodup := by
  have hN2 := hG.n1
  have hs64 : ∀ x ∈ s, 0 ≤ x ∧ x < 64 := fun x hx => by have := hs.1 x hx; omega
  rw [List.nodup_iff_pairwise_ne, List.pairwise_flatten]
  constructor
  · intro d hd
    rw [← List.nodup_iff_pairwise_ne]
    rcases (dut_mem hG.n0 L s kind d).1 hd with ⟨p, _, _, _, rfl⟩ | ⟨a, _, hsk, rfl⟩
    · simp
    · exact oneD_nodup hs kind (skp_out hsk) hs64
  · unfold dut
    rw [List.pairwise_append]
    refine ⟨?_, nodD_apart hs64 kind _ _, fun d hd e he x hx y hy => ?_⟩
    · unfold idut
      rw [List.pairwise_map]
      have := List.Nodup.sublist (List.filter_sublist (p := fun p => inn s p.f0 && inn s p.f1)) (ord_nodup hG.ord)
      refine (List.nodup_iff_pairwise_ne.1 this).imp fun h x hx y hy => ?_
      rw [List.mem_singleton.1 hx, List.mem_singleton.1 hy]
      exact h
    · obtain ⟨p, _, h0, h1, rfl⟩ := (idut_mem L s d).1 hd
      obtain ⟨a, _, _, hsk, rfl⟩ := (nodD_mem L s kind e _ _).1 he
      obtain rfl := List.mem_singleton.1 hx
      rintro rfl
      rcases oneD_end hs64 hy with ⟨_, h2⟩ | ⟨h2, _⟩
      · exact skp_out hsk (by rw [← h2]; exact h1)
      · exact skp_out hsk (by rw [← h2]; exact h0)
theorem proves_ok {N : Int} {L : List S42} (hG : GoodG N L) {s : List Int} (hs : SetL N s) (kind : Int) : Ev (fun k => enforce_proves.f k N L kind s (chs N L s kind) (dut N L s kind)) true := by
  obtain ⟨m, e⟩ := prAll_ok (dut N L s kind) [] (dut_flat hG hs kind) (fun _ _ => rfl)
  simp only [enforce_proves.f]
  refine Ev.pos (by unfold chs; rw [List.length_map]) ?_
  rw [e]
  refine Ev.bind (duties_ok hG hs kind) ?_
  have : (dut N L s kind).all (covP (dut N L s kind)) = true := List.all_eq_true.2 fun l hl => covP_self hl
  rw [this]
  exact Ev.const _
end Go.Proofs.YtjmdlmogdbhdhaaDoor.P
namespace Go.Proofs.YtjmdlmogdbhdhaaDoor.P
open Go.RowKit Go.Proofs.YtjmdlmogdbhdhaaDoorW.PrintWords Go.Proofs.YtjmdlmogdbhdhaaDoorW.PrintLast Go.Proofs.YtjmdlmogdbhdhaaDoorW.PrintMore
attribute [local go_sem] max2_int min2_int max_two min_two max_three min_three max_four min_four
set_option linter.unusedVariables false
set_option linter.unusedSimpArgs false
def enforce_Check.f (k : Nat) (a0_0 : Int) (l0_1 : List (S42)) (a1 : Int) (l2_0 : List Int) (l2_1 : List (S42)) (l2_2 : List (List (S42))) : Option (Int) := (enforce_arguments.f k a0_0 l0_1 l2_0 a1).bind fun t240 => (if t240 = 0 then ((enforce_Toggle.f k a0_0 l0_1 l2_1).bind fun bt241 => (if bt241.2.2 = 0 then ((enforce_acceptable.f k bt241.1 bt241.2.1 l2_0 a1).bind fun t247 => (if t247 = true then ((enforce_proves.f k a0_0 l0_1 a1 l2_0 l2_1 l2_2).bind fun t248 => (if t248 = true then (some 0) else (some 11))) else (some 7))) else (some bt241.2.2))) else (some t240))
set_option maxHeartbeats 8000000 in
set_option maxRecDepth 100000 in
theorem enforce_Check.calls (k : Nat) (a0_0 : Int) (A0_1 : Option Addr) (c0_1 : Nat) (l0_1 : List (S42)) (a1 : Int) (A2_0 : Option Addr) (c2_0 : Nat) (l2_0 : List Int) (A2_1 : Option Addr) (c2_1 : Nat) (l2_1 : List (S42)) (A2_2 : Option Addr) (c2_2 : Nat) (l2_2 : List (List (S42))) (r : Int) (w : World) (hr0_1 : Kd.C k42 w A0_1 l0_1.length l0_1) (hc0_1 : l0_1.length ≤ c0_1) (hr2_0 : Kd.C (Kd.int .i64) w A2_0 l2_0.length l2_0) (hc2_0 : l2_0.length ≤ c2_0) (hr2_1 : Kd.C k42 w A2_1 l2_1.length l2_1) (hc2_1 : l2_1.length ≤ c2_1) (hr2_2 : Kd.C (Kd.slice 42 k42) w A2_2 l2_2.length l2_2) (hc2_2 : l2_2.length ≤ c2_2) (hT : TabT w) (h : enforce_Check.f k a0_0 l0_1 a1 l2_0 l2_1 l2_2 = some r) :
 Calls Tryd.prog 17 #[.agg #[.int .i64 a0_0, .slice A0_1 l0_1.length c0_1], .int .i64 a1, .agg #[.slice A2_0 l2_0.length c2_0, .slice A2_1 l2_1.length c2_1, .slice A2_2 l2_2.length c2_2]] w fun e w' => e = .returned (.int .i64 r) ∧ Below w.heap.size w w' := by
 have hu24 := Tryd.underlying24; have hu28 := Tryd.underlying28; have HR0_1 := Aside0.mk hr0_1; have HC0_1 := Aside0.mk hc0_1; clear hr0_1 hc0_1; have HR2_0 := Aside0.mk hr2_0; have HC2_0 := Aside0.mk hc2_0; clear hr2_0 hc2_0; have HR2_1 := Aside0.mk hr2_1; have HC2_1 := Aside0.mk hc2_1; clear hr2_1 hc2_1; have HR2_2 := Aside0.mk hr2_2; have HC2_2 := Aside0.mk hc2_2; clear hr2_2 hc2_2; have HTab := Aside0.mk hT; clear hT; have HB := Aside0.mk (Below.refl w.heap.size w); have H : ((enforce_arguments.f k a0_0 l0_1 l2_0 a1).bind fun t240 => (if t240 = 0 then ((enforce_Toggle.f k a0_0 l0_1 l2_1).bind fun bt241 => (if bt241.2.2 = 0 then ((enforce_acceptable.f k bt241.1 bt241.2.1 l2_0 a1).bind fun t247 => (if t247 = true then ((enforce_proves.f k a0_0 l0_1 a1 l2_0 l2_1 l2_2).bind fun t248 => (if t248 = true then (some 0) else (some 11))) else (some 7))) else (some bt241.2.2))) else (some t240))) = some r := h; clear h; replace H := Option.bind_eq_some_iff.mp H; obtain ⟨t240, A40, H⟩ := H; replace H : (if t240 = 0 then ((enforce_Toggle.f k a0_0 l0_1 l2_1).bind fun bt241 => (if bt241.2.2 = 0 then ((enforce_acceptable.f k bt241.1 bt241.2.1 l2_0 a1).bind fun t247 => (if t247 = true then ((enforce_proves.f k a0_0 l0_1 a1 l2_0 l2_1 l2_2).bind fun t248 => (if t248 = true then (some 0) else (some 11))) else (some 7))) else (some bt241.2.2))) else (some t240)) = some r := H; have A4 := Aside0.mk A40; clear A40; by_cases c5 : t240 = 0
 · rw [if_pos c5] at H; have c5b0 : (t240 == 0) = true := beq_iff_eq.mpr c5; have c5b1 : (t240 != 0) = false := bne_eq_false_iff_eq.mpr c5; clear c5; replace H := Option.bind_eq_some_iff.mp H; obtain ⟨⟨t241, t242, t245⟩, A60, H⟩ := H; replace H : (if t245 = 0 then ((enforce_acceptable.f k t241 t242 l2_0 a1).bind fun t247 => (if t247 = true then ((enforce_proves.f k a0_0 l0_1 a1 l2_0 l2_1 l2_2).bind fun t248 => (if t248 = true then (some 0) else (some 11))) else (some 7))) else (some t245)) = some r := H; have A6 := Aside0.mk A60; clear A60; by_cases c7 : t245 = 0
   · rw [if_pos c7] at H; have c7b0 : (t245 == 0) = true := beq_iff_eq.mpr c7; have c7b1 : (t245 != 0) = false := bne_eq_false_iff_eq.mpr c7; clear c7; replace H := Option.bind_eq_some_iff.mp H; obtain ⟨t247, A80, H⟩ := H; replace H : (if t247 = true then ((enforce_proves.f k a0_0 l0_1 a1 l2_0 l2_1 l2_2).bind fun t248 => (if t248 = true then (some 0) else (some 11))) else (some 7)) = some r := H; have A8 := Aside0.mk A80; clear A80; by_cases c9 : t247 = true
     · subst c9; have H1 : ((enforce_proves.f k a0_0 l0_1 a1 l2_0 l2_1 l2_2).bind fun t248 => (if t248 = true then (some 0) else (some 11))) = some r := by rw [if_pos rfl] at H; exact H
       clear H; have H := H1; clear H1; replace H := Option.bind_eq_some_iff.mp H; obtain ⟨t248, A100, H⟩ := H; replace H : (if t248 = true then (some 0) else (some 11)) = some r := H; have A10 := Aside0.mk A100; clear A100; by_cases c11 : t248 = true
       · subst c11; have H1 : (some 0) = some r := by rw [if_pos rfl] at H; exact H
         clear H; have H := H1; clear H1; obtain rfl := Option.some.inj H; go_enter Tryd.func17, Tryd.ntmps17; go_wp2_with (first | ((with_reducible refine gate_dst (N := 3) rfl ?_); refine zX (N := 3) (cs := #[.int .i64 a0_0, .slice A0_1 l0_1.length c0_1]) (t := 24) ?_; intro gb238 hg w12 hbox hb; have BK238 := Aside0.mk (hbox); have GW238 := Aside0.mk (zW hg HB); have GE238 := Aside0.mk (zW hg HB); replace HB := Aside0.mk (below_step (zB HB) hb); clear hb hbox hg) | ((with_reducible refine gate_dst (N := 5) rfl ?_); refine zX (N := 5) (cs := #[.slice A2_0 l2_0.length c2_0, .slice A2_1 l2_1.length c2_1, .slice A2_2 l2_2.length c2_2]) (t := 28) ?_; intro gb239 hg w13 hbox hb; have BK239 := Aside0.mk (hbox); have GW239 := Aside0.mk (zW hg HB); have GE239 := Aside0.mk (zW hg HB); have NB238_239 := Aside0.mk (zNl hg BK238); have NB239_238 := Aside0.mk (zNr hg BK238); replace BK238 := Aside0.mk (zKb BK238 hb); replace HB := Aside0.mk (below_step (zB HB) hb); clear hb hbox hg; have hnb14 := NB238_239.out; have hnc14 := NB239_238.out; have hcz15_0 := zc BK238 0; have hcz15_1 := zc BK238 1; have hfz15_0 := blk_frozen BK238.out 0; have hfz15_1 := blk_frozen BK238.out 1; have hcz16_0 := zc BK239 0; have hcz16_1 := zc BK239 1; have hcz16_2 := zc BK239 2; have hfz16_0 := blk_frozen BK239.out 0; have hfz16_1 := blk_frozen BK239.out 1; have hfz16_2 := blk_frozen BK239.out 2) | ((with_reducible refine gate_callee (f := 37) rfl ?_); refine zG (some 14) rfl Tryd.func37 #[.agg #[.int .i64 a0_0, .slice A0_1 l0_1.length c0_1], .slice A2_0 l2_0.length c2_0, .int .i64 a1] ?_; (with_reducible refine (enforce_arguments.calls k a0_0 _ _ l0_1 _ _ l2_0 a1 t240 _ ?side1 ?side2 ?side3 ?side4 A4.out).mono ?_); (case side1 => exact zCb HR0_1 HB); (case side2 => exact HC0_1.out); (case side3 => exact zCb HR2_0 HB); (case side4 => exact HC2_0.out); rintro e w17 ⟨rfl, hb⟩; refine ⟨_, rfl, ?_⟩; replace BK238 := Aside0.mk (zKb BK238 hb); replace BK239 := Aside0.mk (zKb BK239 hb); replace HB := Aside0.mk (below_step (zB HB) hb); (try clear hb); (try clear hb2); (try clear hk); (try clear hi); have hcz18_0 := zc BK238 0; have hcz18_1 := zc BK238 1; have hfz18_0 := blk_frozen BK238.out 0; have hfz18_1 := blk_frozen BK238.out 1; have hcz19_0 := zc BK239 0; have hcz19_1 := zc BK239 1; have hcz19_2 := zc BK239 2; have hfz19_0 := blk_frozen BK239.out 0; have hfz19_1 := blk_frozen BK239.out 1; have hfz19_2 := blk_frozen BK239.out 2) | ((with_reducible refine gate_callee (f := 21) rfl ?_); refine zG (some 22) rfl Tryd.func21 #[.agg #[.int .i64 a0_0, .slice A0_1 l0_1.length c0_1], .slice A2_1 l2_1.length c2_1] ?_; (with_reducible refine (enforce_Toggle.calls k a0_0 _ _ l0_1 _ _ l2_1 t241 t242 t245 _ ?side1 ?side2 ?side3 ?side4 A6.out).mono ?_); (case side1 => exact zCb HR0_1 HB); (case side2 => exact HC0_1.out); (case side3 => exact zCb HR2_1 HB); (case side4 => exact HC2_1.out); rintro e w20 ⟨v243, rfl, ho0, hb⟩; refine ⟨_, rfl, ?_⟩; have HO244 := Aside0.mk (Kd.R_lower ho0 (below_size (zB HB))); replace BK238 := Aside0.mk (zKb BK238 hb); replace BK239 := Aside0.mk (zKb BK239 hb); replace HB := Aside0.mk (below_step (zB HB) hb); (try clear hb); (try clear hb2); (try clear hk); (try clear hi); (try clear ho0)) | ((with_reducible refine gate_dst (N := 8) rfl ?_); refine zX (N := 8) (cs := #[.int .i64 0, .slice none 0 0]) (t := 24) ?_; intro gb246 hg w21 hbox hb; have BK246 := Aside0.mk (hbox); have GW246 := Aside0.mk (zW hg HB); have GE246 := Aside0.mk (zW hg HB); have NB238_246 := Aside0.mk (zNl hg BK238); have NB246_238 := Aside0.mk (zNr hg BK238); have NB239_246 := Aside0.mk (zNl hg BK239); have NB246_239 := Aside0.mk (zNr hg BK239); replace HO244 := Aside0.mk (Kd.R_below (zR HO244) hb); replace BK238 := Aside0.mk (zKb BK238 hb); replace BK239 := Aside0.mk (zKb BK239 hb); replace HB := Aside0.mk (below_step (zB HB) hb); clear hb hbox hg; have hnb22 := NB246_238.out; have hnc22 := NB238_246.out; have hnb23 := NB246_239.out; have hnc23 := NB239_246.out; have hcz24_0 := zc BK246 0; have hcz24_1 := zc BK246 1; have hfz24_0 := blk_frozen BK246.out 0; have hfz24_1 := blk_frozen BK246.out 1; obtain ⟨Ao25, co25, eo25⟩ := Kd.R_slice HO244.out; subst eo25; have hcz26_0 := zc BK239 0; have hcz26_1 := zc BK239 1; have hcz26_2 := zc BK239 2; have hfz26_0 := blk_frozen BK239.out 0; have hfz26_1 := blk_frozen BK239.out 1; have hfz26_2 := blk_frozen BK239.out 2) | ((with_reducible refine gate_callee (f := 38) rfl ?_); refine zG (some 34) rfl Tryd.func38 #[.agg #[.int .i64 t241, .slice Ao25 t242.length co25], .slice A2_0 l2_0.length c2_0, .int .i64 a1] ?_; (with_reducible refine (enforce_acceptable.calls k t241 _ _ t242 _ _ l2_0 a1 true _ ?side1 ?side2 ?side3 ?side4 ?side5 A8.out).mono ?_); (case side1 => refine (Kd.R_reads' (e := 42) (base := w.heap.size) (ok := fun k_ => True) (n := t242.length) (c := co25) ?_).2.2; exact (by refine zkR ?_; exact (Kd.R_mono (Kd.R_far (p := ⟨gb246, 1, none⟩) (Kd.R_far (p := ⟨gb246, 0, none⟩) (Kd.R_types HO244.out BK246.out (by decide)) (fun _ hk => hk.2) (.int .i64 t241)) (fun _ hk => hk.2) (.slice Ao25 t242.length co25)) (fun _ h_ => h_.1)))); (case side2 => exact (Kd.R_reads' HO244.out).2.1); (case side3 => exact Kd.C_below HR2_0.out (zB HB)); (case side4 => exact HC2_0.out); (case side5 => exact TabT.now HTab.out (zB HB)); rintro e w27 ⟨rfl, hb⟩; refine ⟨_, rfl, ?_⟩; replace HO244 := Aside0.mk (Kd.R_below (by refine zkR ?_; exact (Kd.R_mono (Kd.R_far (p := ⟨gb246, 1, none⟩) (Kd.R_far (p := ⟨gb246, 0, none⟩) (Kd.R_types HO244.out BK246.out (by decide)) (fun _ hk => hk.2) (.int .i64 t241)) (fun _ hk => hk.2) (.slice Ao25 t242.length co25)) (fun _ h_ => h_.1))) hb); replace BK238 := Aside0.mk (blk_below (g := gb238) (o := .cells #[.int .i64 a0_0, .slice A0_1 l0_1.length c0_1] 24 (0, 0)) (by refine zk ?_; refine blk_far ?_ NB238_246.out _; refine zk ?_; refine blk_far ?_ NB238_246.out _; refine zk ?_; exact BK238.out) hb); replace BK239 := Aside0.mk (blk_below (g := gb239) (o := .cells #[.slice A2_0 l2_0.length c2_0, .slice A2_1 l2_1.length c2_1, .slice A2_2 l2_2.length c2_2] 28 (0, 0)) (by refine zk ?_; refine blk_far ?_ NB239_246.out _; refine zk ?_; refine blk_far ?_ NB239_246.out _; refine zk ?_; exact BK239.out) hb); replace BK246 := Aside0.mk (blk_below (g := gb246) (o := .cells #[.int .i64 t241, .slice Ao25 t242.length co25] 24 (0, 0)) (by refine zk ?_; refine blk_put (cs := #[.int .i64 t241, .slice none 0 0]) ?_ 1 _ rfl; refine zk ?_; refine blk_put (cs := #[.int .i64 0, .slice none 0 0]) ?_ 0 _ rfl; refine zk ?_; exact BK246.out) hb); replace HB := Aside0.mk (below_step (zB HB) hb); (try clear hb); (try clear hb2); (try clear hk); (try clear hi); have hcz28_0 := zc BK238 0; have hcz28_1 := zc BK238 1; have hfz28_0 := blk_frozen BK238.out 0; have hfz28_1 := blk_frozen BK238.out 1; have hcz29_0 := zc BK239 0; have hcz29_1 := zc BK239 1; have hcz29_2 := zc BK239 2; have hfz29_0 := blk_frozen BK239.out 0; have hfz29_1 := blk_frozen BK239.out 1; have hfz29_2 := blk_frozen BK239.out 2) | ((with_reducible refine gate_callee (f := 39) rfl ?_); refine zG (some 40) rfl Tryd.func39 #[.agg #[.int .i64 a0_0, .slice A0_1 l0_1.length c0_1], .int .i64 a1, .agg #[.slice A2_0 l2_0.length c2_0, .slice A2_1 l2_1.length c2_1, .slice A2_2 l2_2.length c2_2]] ?_; (with_reducible refine (enforce_proves.calls k a0_0 _ _ l0_1 a1 _ _ l2_0 _ _ l2_1 _ _ l2_2 true _ ?side1 ?side2 ?side3 ?side4 ?side5 ?side6 ?side7 ?side8 ?side9 A10.out).mono ?_); (case side1 => exact zCb HR0_1 HB); (case side2 => exact HC0_1.out); (case side3 => exact zCb HR2_0 HB); (case side4 => exact HC2_0.out); (case side5 => exact zCb HR2_1 HB); (case side6 => exact HC2_1.out); (case side7 => exact zCb HR2_2 HB); (case side8 => exact HC2_2.out); (case side9 => exact TabT.now HTab.out (zB HB)); rintro e w30 ⟨rfl, hb⟩; refine ⟨_, rfl, ?_⟩; replace HO244 := Aside0.mk (Kd.R_below (zR HO244) hb); replace BK238 := Aside0.mk (zKb BK238 hb); replace BK239 := Aside0.mk (zKb BK239 hb); replace BK246 := Aside0.mk (zKb BK246 hb); replace HB := Aside0.mk (below_step (zB HB) hb); (try clear hb); (try clear hb2); (try clear hk); (try clear hi))); go_ret; exact ⟨by first | rfl | (simp [errW_none, errW_some] <;> rfl) | (simp [*, errW_none, errW_some] <;> rfl), zB HB⟩
       · replace c11 := Bool.eq_false_iff.mpr c11; subst c11; have H1 : (some 11) = some r := by rw [if_neg (show ¬ (false = true) by decide)] at H; exact H
         clear H; have H := H1; clear H1; obtain rfl := Option.some.inj H; go_enter Tryd.func17, Tryd.ntmps17; go_wp2_with (first | ((with_reducible refine gate_dst (N := 3) rfl ?_); refine zX (N := 3) (cs := #[.int .i64 a0_0, .slice A0_1 l0_1.length c0_1]) (t := 24) ?_; intro gb238 hg w31 hbox hb; have BK238 := Aside0.mk (hbox); have GW238 := Aside0.mk (zW hg HB); have GE238 := Aside0.mk (zW hg HB); replace HB := Aside0.mk (below_step (zB HB) hb); clear hb hbox hg) | ((with_reducible refine gate_dst (N := 5) rfl ?_); refine zX (N := 5) (cs := #[.slice A2_0 l2_0.length c2_0, .slice A2_1 l2_1.length c2_1, .slice A2_2 l2_2.length c2_2]) (t := 28) ?_; intro gb239 hg w32 hbox hb; have BK239 := Aside0.mk (hbox); have GW239 := Aside0.mk (zW hg HB); have GE239 := Aside0.mk (zW hg HB); have NB238_239 := Aside0.mk (zNl hg BK238); have NB239_238 := Aside0.mk (zNr hg BK238); replace BK238 := Aside0.mk (zKb BK238 hb); replace HB := Aside0.mk (below_step (zB HB) hb); clear hb hbox hg; have hnb33 := NB238_239.out; have hnc33 := NB239_238.out; have hcz34_0 := zc BK238 0; have hcz34_1 := zc BK238 1; have hfz34_0 := blk_frozen BK238.out 0; have hfz34_1 := blk_frozen BK238.out 1; have hcz35_0 := zc BK239 0; have hcz35_1 := zc BK239 1; have hcz35_2 := zc BK239 2; have hfz35_0 := blk_frozen BK239.out 0; have hfz35_1 := blk_frozen BK239.out 1; have hfz35_2 := blk_frozen BK239.out 2) | ((with_reducible refine gate_callee (f := 37) rfl ?_); refine zG (some 14) rfl Tryd.func37 #[.agg #[.int .i64 a0_0, .slice A0_1 l0_1.length c0_1], .slice A2_0 l2_0.length c2_0, .int .i64 a1] ?_; (with_reducible refine (enforce_arguments.calls k a0_0 _ _ l0_1 _ _ l2_0 a1 t240 _ ?side1 ?side2 ?side3 ?side4 A4.out).mono ?_); (case side1 => exact zCb HR0_1 HB); (case side2 => exact HC0_1.out); (case side3 => exact zCb HR2_0 HB); (case side4 => exact HC2_0.out); rintro e w36 ⟨rfl, hb⟩; refine ⟨_, rfl, ?_⟩; replace BK238 := Aside0.mk (zKb BK238 hb); replace BK239 := Aside0.mk (zKb BK239 hb); replace HB := Aside0.mk (below_step (zB HB) hb); (try clear hb); (try clear hb2); (try clear hk); (try clear hi); have hcz37_0 := zc BK238 0; have hcz37_1 := zc BK238 1; have hfz37_0 := blk_frozen BK238.out 0; have hfz37_1 := blk_frozen BK238.out 1; have hcz38_0 := zc BK239 0; have hcz38_1 := zc BK239 1; have hcz38_2 := zc BK239 2; have hfz38_0 := blk_frozen BK239.out 0; have hfz38_1 := blk_frozen BK239.out 1; have hfz38_2 := blk_frozen BK239.out 2) | ((with_reducible refine gate_callee (f := 21) rfl ?_); refine zG (some 22) rfl Tryd.func21 #[.agg #[.int .i64 a0_0, .slice A0_1 l0_1.length c0_1], .slice A2_1 l2_1.length c2_1] ?_; (with_reducible refine (enforce_Toggle.calls k a0_0 _ _ l0_1 _ _ l2_1 t241 t242 t245 _ ?side1 ?side2 ?side3 ?side4 A6.out).mono ?_); (case side1 => exact zCb HR0_1 HB); (case side2 => exact HC0_1.out); (case side3 => exact zCb HR2_1 HB); (case side4 => exact HC2_1.out); rintro e w39 ⟨v243, rfl, ho0, hb⟩; refine ⟨_, rfl, ?_⟩; have HO244 := Aside0.mk (Kd.R_lower ho0 (below_size (zB HB))); replace BK238 := Aside0.mk (zKb BK238 hb); replace BK239 := Aside0.mk (zKb BK239 hb); replace HB := Aside0.mk (below_step (zB HB) hb); (try clear hb); (try clear hb2); (try clear hk); (try clear hi); (try clear ho0)) | ((with_reducible refine gate_dst (N := 8) rfl ?_); refine zX (N := 8) (cs := #[.int .i64 0, .slice none 0 0]) (t := 24) ?_; intro gb246 hg w40 hbox hb; have BK246 := Aside0.mk (hbox); have GW246 := Aside0.mk (zW hg HB); have GE246 := Aside0.mk (zW hg HB); have NB238_246 := Aside0.mk (zNl hg BK238); have NB246_238 := Aside0.mk (zNr hg BK238); have NB239_246 := Aside0.mk (zNl hg BK239); have NB246_239 := Aside0.mk (zNr hg BK239); replace HO244 := Aside0.mk (Kd.R_below (zR HO244) hb); replace BK238 := Aside0.mk (zKb BK238 hb); replace BK239 := Aside0.mk (zKb BK239 hb); replace HB := Aside0.mk (below_step (zB HB) hb); clear hb hbox hg; have hnb41 := NB246_238.out; have hnc41 := NB238_246.out; have hnb42 := NB246_239.out; have hnc42 := NB239_246.out; have hcz43_0 := zc BK246 0; have hcz43_1 := zc BK246 1; have hfz43_0 := blk_frozen BK246.out 0; have hfz43_1 := blk_frozen BK246.out 1; obtain ⟨Ao44, co44, eo44⟩ := Kd.R_slice HO244.out; subst eo44; have hcz45_0 := zc BK239 0; have hcz45_1 := zc BK239 1; have hcz45_2 := zc BK239 2; have hfz45_0 := blk_frozen BK239.out 0; have hfz45_1 := blk_frozen BK239.out 1; have hfz45_2 := blk_frozen BK239.out 2) | ((with_reducible refine gate_callee (f := 38) rfl ?_); refine zG (some 34) rfl Tryd.func38 #[.agg #[.int .i64 t241, .slice Ao44 t242.length co44], .slice A2_0 l2_0.length c2_0, .int .i64 a1] ?_; (with_reducible refine (enforce_acceptable.calls k t241 _ _ t242 _ _ l2_0 a1 true _ ?side1 ?side2 ?side3 ?side4 ?side5 A8.out).mono ?_); (case side1 => refine (Kd.R_reads' (e := 42) (base := w.heap.size) (ok := fun k_ => True) (n := t242.length) (c := co44) ?_).2.2; exact (by refine zkR ?_; exact (Kd.R_mono (Kd.R_far (p := ⟨gb246, 1, none⟩) (Kd.R_far (p := ⟨gb246, 0, none⟩) (Kd.R_types HO244.out BK246.out (by decide)) (fun _ hk => hk.2) (.int .i64 t241)) (fun _ hk => hk.2) (.slice Ao44 t242.length co44)) (fun _ h_ => h_.1)))); (case side2 => exact (Kd.R_reads' HO244.out).2.1); (case side3 => exact Kd.C_below HR2_0.out (zB HB)); (case side4 => exact HC2_0.out); (case side5 => exact TabT.now HTab.out (zB HB)); rintro e w46 ⟨rfl, hb⟩; refine ⟨_, rfl, ?_⟩; replace HO244 := Aside0.mk (Kd.R_below (by refine zkR ?_; exact (Kd.R_mono (Kd.R_far (p := ⟨gb246, 1, none⟩) (Kd.R_far (p := ⟨gb246, 0, none⟩) (Kd.R_types HO244.out BK246.out (by decide)) (fun _ hk => hk.2) (.int .i64 t241)) (fun _ hk => hk.2) (.slice Ao44 t242.length co44)) (fun _ h_ => h_.1))) hb); replace BK238 := Aside0.mk (blk_below (g := gb238) (o := .cells #[.int .i64 a0_0, .slice A0_1 l0_1.length c0_1] 24 (0, 0)) (by refine zk ?_; refine blk_far ?_ NB238_246.out _; refine zk ?_; refine blk_far ?_ NB238_246.out _; refine zk ?_; exact BK238.out) hb); replace BK239 := Aside0.mk (blk_below (g := gb239) (o := .cells #[.slice A2_0 l2_0.length c2_0, .slice A2_1 l2_1.length c2_1, .slice A2_2 l2_2.length c2_2] 28 (0, 0)) (by refine zk ?_; refine blk_far ?_ NB239_246.out _; refine zk ?_; refine blk_far ?_ NB239_246.out _; refine zk ?_; exact BK239.out) hb); replace BK246 := Aside0.mk (blk_below (g := gb246) (o := .cells #[.int .i64 t241, .slice Ao44 t242.length co44] 24 (0, 0)) (by refine zk ?_; refine blk_put (cs := #[.int .i64 t241, .slice none 0 0]) ?_ 1 _ rfl; refine zk ?_; refine blk_put (cs := #[.int .i64 0, .slice none 0 0]) ?_ 0 _ rfl; refine zk ?_; exact BK246.out) hb); replace HB := Aside0.mk (below_step (zB HB) hb); (try clear hb); (try clear hb2); (try clear hk); (try clear hi); have hcz47_0 := zc BK238 0; have hcz47_1 := zc BK238 1; have hfz47_0 := blk_frozen BK238.out 0; have hfz47_1 := blk_frozen BK238.out 1; have hcz48_0 := zc BK239 0; have hcz48_1 := zc BK239 1; have hcz48_2 := zc BK239 2; have hfz48_0 := blk_frozen BK239.out 0; have hfz48_1 := blk_frozen BK239.out 1; have hfz48_2 := blk_frozen BK239.out 2) | ((with_reducible refine gate_callee (f := 39) rfl ?_); refine zG (some 40) rfl Tryd.func39 #[.agg #[.int .i64 a0_0, .slice A0_1 l0_1.length c0_1], .int .i64 a1, .agg #[.slice A2_0 l2_0.length c2_0, .slice A2_1 l2_1.length c2_1, .slice A2_2 l2_2.length c2_2]] ?_; (with_reducible refine (enforce_proves.calls k a0_0 _ _ l0_1 a1 _ _ l2_0 _ _ l2_1 _ _ l2_2 false _ ?side1 ?side2 ?side3 ?side4 ?side5 ?side6 ?side7 ?side8 ?side9 A10.out).mono ?_); (case side1 => exact zCb HR0_1 HB); (case side2 => exact HC0_1.out); (case side3 => exact zCb HR2_0 HB); (case side4 => exact HC2_0.out); (case side5 => exact zCb HR2_1 HB); (case side6 => exact HC2_1.out); (case side7 => exact zCb HR2_2 HB); (case side8 => exact HC2_2.out); (case side9 => exact TabT.now HTab.out (zB HB)); rintro e w49 ⟨rfl, hb⟩; refine ⟨_, rfl, ?_⟩; replace HO244 := Aside0.mk (Kd.R_below (zR HO244) hb); replace BK238 := Aside0.mk (zKb BK238 hb); replace BK239 := Aside0.mk (zKb BK239 hb); replace BK246 := Aside0.mk (zKb BK246 hb); replace HB := Aside0.mk (below_step (zB HB) hb); (try clear hb); (try clear hb2); (try clear hk); (try clear hi))); go_ret; exact ⟨by first | rfl | (simp [errW_none, errW_some] <;> rfl) | (simp [*, errW_none, errW_some] <;> rfl), zB HB⟩
     · replace c9 := Bool.eq_false_iff.mpr c9; subst c9; have H1 : (some 7) = some r := by rw [if_neg (show ¬ (false = true) by decide)] at H; exact H
       clear H; have H := H1; clear H1; obtain rfl := Option.some.inj H; go_enter Tryd.func17, Tryd.ntmps17; go_wp2_with (first | ((with_reducible refine gate_dst (N := 3) rfl ?_); refine zX (N := 3) (cs := #[.int .i64 a0_0, .slice A0_1 l0_1.length c0_1]) (t := 24) ?_; intro gb238 hg w50 hbox hb; have BK238 := Aside0.mk (hbox); have GW238 := Aside0.mk (zW hg HB); have GE238 := Aside0.mk (zW hg HB); replace HB := Aside0.mk (below_step (zB HB) hb); clear hb hbox hg) | ((with_reducible refine gate_dst (N := 5) rfl ?_); refine zX (N := 5) (cs := #[.slice A2_0 l2_0.length c2_0, .slice A2_1 l2_1.length c2_1, .slice A2_2 l2_2.length c2_2]) (t := 28) ?_; intro gb239 hg w51 hbox hb; have BK239 := Aside0.mk (hbox); have GW239 := Aside0.mk (zW hg HB); have GE239 := Aside0.mk (zW hg HB); have NB238_239 := Aside0.mk (zNl hg BK238); have NB239_238 := Aside0.mk (zNr hg BK238); replace BK238 := Aside0.mk (zKb BK238 hb); replace HB := Aside0.mk (below_step (zB HB) hb); clear hb hbox hg; have hnb52 := NB238_239.out; have hnc52 := NB239_238.out; have hcz53_0 := zc BK238 0; have hcz53_1 := zc BK238 1; have hfz53_0 := blk_frozen BK238.out 0; have hfz53_1 := blk_frozen BK238.out 1; have hcz54_0 := zc BK239 0; have hcz54_1 := zc BK239 1; have hcz54_2 := zc BK239 2; have hfz54_0 := blk_frozen BK239.out 0; have hfz54_1 := blk_frozen BK239.out 1; have hfz54_2 := blk_frozen BK239.out 2) | ((with_reducible refine gate_callee (f := 37) rfl ?_); refine zG (some 14) rfl Tryd.func37 #[.agg #[.int .i64 a0_0, .slice A0_1 l0_1.length c0_1], .slice A2_0 l2_0.length c2_0, .int .i64 a1] ?_; (with_reducible refine (enforce_arguments.calls k a0_0 _ _ l0_1 _ _ l2_0 a1 t240 _ ?side1 ?side2 ?side3 ?side4 A4.out).mono ?_); (case side1 => exact zCb HR0_1 HB); (case side2 => exact HC0_1.out); (case side3 => exact zCb HR2_0 HB); (case side4 => exact HC2_0.out); rintro e w55 ⟨rfl, hb⟩; refine ⟨_, rfl, ?_⟩; replace BK238 := Aside0.mk (zKb BK238 hb); replace BK239 := Aside0.mk (zKb BK239 hb); replace HB := Aside0.mk (below_step (zB HB) hb); (try clear hb); (try clear hb2); (try clear hk); (try clear hi); have hcz56_0 := zc BK238 0; have hcz56_1 := zc BK238 1; have hfz56_0 := blk_frozen BK238.out 0; have hfz56_1 := blk_frozen BK238.out 1; have hcz57_0 := zc BK239 0; have hcz57_1 := zc BK239 1; have hcz57_2 := zc BK239 2; have hfz57_0 := blk_frozen BK239.out 0; have hfz57_1 := blk_frozen BK239.out 1; have hfz57_2 := blk_frozen BK239.out 2) | ((with_reducible refine gate_callee (f := 21) rfl ?_); refine zG (some 22) rfl Tryd.func21 #[.agg #[.int .i64 a0_0, .slice A0_1 l0_1.length c0_1], .slice A2_1 l2_1.length c2_1] ?_; (with_reducible refine (enforce_Toggle.calls k a0_0 _ _ l0_1 _ _ l2_1 t241 t242 t245 _ ?side1 ?side2 ?side3 ?side4 A6.out).mono ?_); (case side1 => exact zCb HR0_1 HB); (case side2 => exact HC0_1.out); (case side3 => exact zCb HR2_1 HB); (case side4 => exact HC2_1.out); rintro e w58 ⟨v243, rfl, ho0, hb⟩; refine ⟨_, rfl, ?_⟩; have HO244 := Aside0.mk (Kd.R_lower ho0 (below_size (zB HB))); replace BK238 := Aside0.mk (zKb BK238 hb); replace BK239 := Aside0.mk (zKb BK239 hb); replace HB := Aside0.mk (below_step (zB HB) hb); (try clear hb); (try clear hb2); (try clear hk); (try clear hi); (try clear ho0)) | ((with_reducible refine gate_dst (N := 8) rfl ?_); refine zX (N := 8) (cs := #[.int .i64 0, .slice none 0 0]) (t := 24) ?_; intro gb246 hg w59 hbox hb; have BK246 := Aside0.mk (hbox); have GW246 := Aside0.mk (zW hg HB); have GE246 := Aside0.mk (zW hg HB); have NB238_246 := Aside0.mk (zNl hg BK238); have NB246_238 := Aside0.mk (zNr hg BK238); have NB239_246 := Aside0.mk (zNl hg BK239); have NB246_239 := Aside0.mk (zNr hg BK239); replace HO244 := Aside0.mk (Kd.R_below (zR HO244) hb); replace BK238 := Aside0.mk (zKb BK238 hb); replace BK239 := Aside0.mk (zKb BK239 hb); replace HB := Aside0.mk (below_step (zB HB) hb); clear hb hbox hg; have hnb60 := NB246_238.out; have hnc60 := NB238_246.out; have hnb61 := NB246_239.out; have hnc61 := NB239_246.out; have hcz62_0 := zc BK246 0; have hcz62_1 := zc BK246 1; have hfz62_0 := blk_frozen BK246.out 0; have hfz62_1 := blk_frozen BK246.out 1; obtain ⟨Ao63, co63, eo63⟩ := Kd.R_slice HO244.out; subst eo63; have hcz64_0 := zc BK239 0; have hcz64_1 := zc BK239 1; have hcz64_2 := zc BK239 2; have hfz64_0 := blk_frozen BK239.out 0; have hfz64_1 := blk_frozen BK239.out 1; have hfz64_2 := blk_frozen BK239.out 2) | ((with_reducible refine gate_callee (f := 38) rfl ?_); refine zG (some 34) rfl Tryd.func38 #[.agg #[.int .i64 t241, .slice Ao63 t242.length co63], .slice A2_0 l2_0.length c2_0, .int .i64 a1] ?_; (with_reducible refine (enforce_acceptable.calls k t241 _ _ t242 _ _ l2_0 a1 false _ ?side1 ?side2 ?side3 ?side4 ?side5 A8.out).mono ?_); (case side1 => refine (Kd.R_reads' (e := 42) (base := w.heap.size) (ok := fun k_ => True) (n := t242.length) (c := co63) ?_).2.2; exact (by refine zkR ?_; exact (Kd.R_mono (Kd.R_far (p := ⟨gb246, 1, none⟩) (Kd.R_far (p := ⟨gb246, 0, none⟩) (Kd.R_types HO244.out BK246.out (by decide)) (fun _ hk => hk.2) (.int .i64 t241)) (fun _ hk => hk.2) (.slice Ao63 t242.length co63)) (fun _ h_ => h_.1)))); (case side2 => exact (Kd.R_reads' HO244.out).2.1); (case side3 => exact Kd.C_below HR2_0.out (zB HB)); (case side4 => exact HC2_0.out); (case side5 => exact TabT.now HTab.out (zB HB)); rintro e w65 ⟨rfl, hb⟩; refine ⟨_, rfl, ?_⟩; replace HO244 := Aside0.mk (Kd.R_below (by refine zkR ?_; exact (Kd.R_mono (Kd.R_far (p := ⟨gb246, 1, none⟩) (Kd.R_far (p := ⟨gb246, 0, none⟩) (Kd.R_types HO244.out BK246.out (by decide)) (fun _ hk => hk.2) (.int .i64 t241)) (fun _ hk => hk.2) (.slice Ao63 t242.length co63)) (fun _ h_ => h_.1))) hb); replace BK238 := Aside0.mk (blk_below (g := gb238) (o := .cells #[.int .i64 a0_0, .slice A0_1 l0_1.length c0_1] 24 (0, 0)) (by refine zk ?_; refine blk_far ?_ NB238_246.out _; refine zk ?_; refine blk_far ?_ NB238_246.out _; refine zk ?_; exact BK238.out) hb); replace BK239 := Aside0.mk (blk_below (g := gb239) (o := .cells #[.slice A2_0 l2_0.length c2_0, .slice A2_1 l2_1.length c2_1, .slice A2_2 l2_2.length c2_2] 28 (0, 0)) (by refine zk ?_; refine blk_far ?_ NB239_246.out _; refine zk ?_; refine blk_far ?_ NB239_246.out _; refine zk ?_; exact BK239.out) hb); replace BK246 := Aside0.mk (blk_below (g := gb246) (o := .cells #[.int .i64 t241, .slice Ao63 t242.length co63] 24 (0, 0)) (by refine zk ?_; refine blk_put (cs := #[.int .i64 t241, .slice none 0 0]) ?_ 1 _ rfl; refine zk ?_; refine blk_put (cs := #[.int .i64 0, .slice none 0 0]) ?_ 0 _ rfl; refine zk ?_; exact BK246.out) hb); replace HB := Aside0.mk (below_step (zB HB) hb); (try clear hb); (try clear hb2); (try clear hk); (try clear hi))); go_ret; exact ⟨by first | rfl | (simp [errW_none, errW_some] <;> rfl) | (simp [*, errW_none, errW_some] <;> rfl), zB HB⟩
   · rw [if_neg c7] at H; have c7b0 : (t245 == 0) = false := beq_eq_false_iff_ne.mpr c7; have c7b1 : (t245 != 0) = true := bne_iff_ne.mpr c7; obtain rfl := Option.some.inj H; go_enter Tryd.func17, Tryd.ntmps17; go_wp2_with (first | ((with_reducible refine gate_dst (N := 3) rfl ?_); refine zX (N := 3) (cs := #[.int .i64 a0_0, .slice A0_1 l0_1.length c0_1]) (t := 24) ?_; intro gb238 hg w66 hbox hb; have BK238 := Aside0.mk (hbox); have GW238 := Aside0.mk (zW hg HB); have GE238 := Aside0.mk (zW hg HB); replace HB := Aside0.mk (below_step (zB HB) hb); clear hb hbox hg) | ((with_reducible refine gate_dst (N := 5) rfl ?_); refine zX (N := 5) (cs := #[.slice A2_0 l2_0.length c2_0, .slice A2_1 l2_1.length c2_1, .slice A2_2 l2_2.length c2_2]) (t := 28) ?_; intro gb239 hg w67 hbox hb; have BK239 := Aside0.mk (hbox); have GW239 := Aside0.mk (zW hg HB); have GE239 := Aside0.mk (zW hg HB); have NB238_239 := Aside0.mk (zNl hg BK238); have NB239_238 := Aside0.mk (zNr hg BK238); replace BK238 := Aside0.mk (zKb BK238 hb); replace HB := Aside0.mk (below_step (zB HB) hb); clear hb hbox hg; have hnb68 := NB238_239.out; have hnc68 := NB239_238.out; have hcz69_0 := zc BK238 0; have hcz69_1 := zc BK238 1; have hfz69_0 := blk_frozen BK238.out 0; have hfz69_1 := blk_frozen BK238.out 1; have hcz70_0 := zc BK239 0; have hcz70_1 := zc BK239 1; have hcz70_2 := zc BK239 2; have hfz70_0 := blk_frozen BK239.out 0; have hfz70_1 := blk_frozen BK239.out 1; have hfz70_2 := blk_frozen BK239.out 2) | ((with_reducible refine gate_callee (f := 37) rfl ?_); refine zG (some 14) rfl Tryd.func37 #[.agg #[.int .i64 a0_0, .slice A0_1 l0_1.length c0_1], .slice A2_0 l2_0.length c2_0, .int .i64 a1] ?_; (with_reducible refine (enforce_arguments.calls k a0_0 _ _ l0_1 _ _ l2_0 a1 t240 _ ?side1 ?side2 ?side3 ?side4 A4.out).mono ?_); (case side1 => exact zCb HR0_1 HB); (case side2 => exact HC0_1.out); (case side3 => exact zCb HR2_0 HB); (case side4 => exact HC2_0.out); rintro e w71 ⟨rfl, hb⟩; refine ⟨_, rfl, ?_⟩; replace BK238 := Aside0.mk (zKb BK238 hb); replace BK239 := Aside0.mk (zKb BK239 hb); replace HB := Aside0.mk (below_step (zB HB) hb); (try clear hb); (try clear hb2); (try clear hk); (try clear hi); have hcz72_0 := zc BK238 0; have hcz72_1 := zc BK238 1; have hfz72_0 := blk_frozen BK238.out 0; have hfz72_1 := blk_frozen BK238.out 1; have hcz73_0 := zc BK239 0; have hcz73_1 := zc BK239 1; have hcz73_2 := zc BK239 2; have hfz73_0 := blk_frozen BK239.out 0; have hfz73_1 := blk_frozen BK239.out 1; have hfz73_2 := blk_frozen BK239.out 2) | ((with_reducible refine gate_callee (f := 21) rfl ?_); refine zG (some 22) rfl Tryd.func21 #[.agg #[.int .i64 a0_0, .slice A0_1 l0_1.length c0_1], .slice A2_1 l2_1.length c2_1] ?_; (with_reducible refine (enforce_Toggle.calls k a0_0 _ _ l0_1 _ _ l2_1 t241 t242 t245 _ ?side1 ?side2 ?side3 ?side4 A6.out).mono ?_); (case side1 => exact zCb HR0_1 HB); (case side2 => exact HC0_1.out); (case side3 => exact zCb HR2_1 HB); (case side4 => exact HC2_1.out); rintro e w74 ⟨v243, rfl, ho0, hb⟩; refine ⟨_, rfl, ?_⟩; have HO244 := Aside0.mk (Kd.R_lower ho0 (below_size (zB HB))); replace BK238 := Aside0.mk (zKb BK238 hb); replace BK239 := Aside0.mk (zKb BK239 hb); replace HB := Aside0.mk (below_step (zB HB) hb); (try clear hb); (try clear hb2); (try clear hk); (try clear hi); (try clear ho0)) | ((with_reducible refine gate_dst (N := 8) rfl ?_); refine zX (N := 8) (cs := #[.int .i64 0, .slice none 0 0]) (t := 24) ?_; intro gb246 hg w75 hbox hb; have BK246 := Aside0.mk (hbox); have GW246 := Aside0.mk (zW hg HB); have GE246 := Aside0.mk (zW hg HB); have NB238_246 := Aside0.mk (zNl hg BK238); have NB246_238 := Aside0.mk (zNr hg BK238); have NB239_246 := Aside0.mk (zNl hg BK239); have NB246_239 := Aside0.mk (zNr hg BK239); replace HO244 := Aside0.mk (Kd.R_below (zR HO244) hb); replace BK238 := Aside0.mk (zKb BK238 hb); replace BK239 := Aside0.mk (zKb BK239 hb); replace HB := Aside0.mk (below_step (zB HB) hb); clear hb hbox hg; have hnb76 := NB246_238.out; have hnc76 := NB238_246.out; have hnb77 := NB246_239.out; have hnc77 := NB239_246.out; have hcz78_0 := zc BK246 0; have hcz78_1 := zc BK246 1; have hfz78_0 := blk_frozen BK246.out 0; have hfz78_1 := blk_frozen BK246.out 1; obtain ⟨Ao79, co79, eo79⟩ := Kd.R_slice HO244.out; subst eo79)); go_ret; exact ⟨by first | rfl | (simp [errW_none, errW_some] <;> rfl) | (simp [*, errW_none, errW_some] <;> rfl), zB HB⟩
 · rw [if_neg c5] at H; have c5b0 : (t240 == 0) = false := beq_eq_false_iff_ne.mpr c5; have c5b1 : (t240 != 0) = true := bne_iff_ne.mpr c5; obtain rfl := Option.some.inj H; go_enter Tryd.func17, Tryd.ntmps17; go_wp2_with (first | ((with_reducible refine gate_dst (N := 3) rfl ?_); refine zX (N := 3) (cs := #[.int .i64 a0_0, .slice A0_1 l0_1.length c0_1]) (t := 24) ?_; intro gb238 hg w80 hbox hb; have BK238 := Aside0.mk (hbox); have GW238 := Aside0.mk (zW hg HB); have GE238 := Aside0.mk (zW hg HB); replace HB := Aside0.mk (below_step (zB HB) hb); clear hb hbox hg) | ((with_reducible refine gate_dst (N := 5) rfl ?_); refine zX (N := 5) (cs := #[.slice A2_0 l2_0.length c2_0, .slice A2_1 l2_1.length c2_1, .slice A2_2 l2_2.length c2_2]) (t := 28) ?_; intro gb239 hg w81 hbox hb; have BK239 := Aside0.mk (hbox); have GW239 := Aside0.mk (zW hg HB); have GE239 := Aside0.mk (zW hg HB); have NB238_239 := Aside0.mk (zNl hg BK238); have NB239_238 := Aside0.mk (zNr hg BK238); replace BK238 := Aside0.mk (zKb BK238 hb); replace HB := Aside0.mk (below_step (zB HB) hb); clear hb hbox hg; have hnb82 := NB238_239.out; have hnc82 := NB239_238.out; have hcz83_0 := zc BK238 0; have hcz83_1 := zc BK238 1; have hfz83_0 := blk_frozen BK238.out 0; have hfz83_1 := blk_frozen BK238.out 1; have hcz84_0 := zc BK239 0; have hcz84_1 := zc BK239 1; have hcz84_2 := zc BK239 2; have hfz84_0 := blk_frozen BK239.out 0; have hfz84_1 := blk_frozen BK239.out 1; have hfz84_2 := blk_frozen BK239.out 2) | ((with_reducible refine gate_callee (f := 37) rfl ?_); refine zG (some 14) rfl Tryd.func37 #[.agg #[.int .i64 a0_0, .slice A0_1 l0_1.length c0_1], .slice A2_0 l2_0.length c2_0, .int .i64 a1] ?_; (with_reducible refine (enforce_arguments.calls k a0_0 _ _ l0_1 _ _ l2_0 a1 t240 _ ?side1 ?side2 ?side3 ?side4 A4.out).mono ?_); (case side1 => exact zCb HR0_1 HB); (case side2 => exact HC0_1.out); (case side3 => exact zCb HR2_0 HB); (case side4 => exact HC2_0.out); rintro e w85 ⟨rfl, hb⟩; refine ⟨_, rfl, ?_⟩; replace BK238 := Aside0.mk (zKb BK238 hb); replace BK239 := Aside0.mk (zKb BK239 hb); replace HB := Aside0.mk (below_step (zB HB) hb); (try clear hb); (try clear hb2); (try clear hk); (try clear hi))); go_ret; exact ⟨by first | rfl | (simp [errW_none, errW_some] <;> rfl) | (simp [*, errW_none, errW_some] <;> rfl), zB HB⟩
end Go.Proofs.YtjmdlmogdbhdhaaDoor.P
/- Plain facts: Check accepts the least change of a set. -/
namespace Go.Proofs.YtjmdlmogdbhdhaaDoor.P
open Go.RowKit Go.Proofs.YtjmdlmogdbhdhaaDoorW.PrintWords Go.Proofs.YtjmdlmogdbhdhaaDoorW.PrintLast Go.Proofs.YtjmdlmogdbhdhaaDoorW.PrintMore
theorem ne_of_hope {N : Int} {L : List S42} (hN : 0 ≤ N) {s : List Int} {kind : Int} (hk : kind = 1 ∨ kind = 2) (hh : ¬ hopeless N s kind) : 0 < s.length ∨ dut N L s kind = [] := by
  cases s with
  | cons a r => exact .inl (by simp)
  | nil =>
    refine .inr (dut_empty hN ?_)
    rcases hk with rfl | rfl
    · exact .inl rfl
    · right
      have : ¬ 0 < N := fun h => hh ⟨rfl, rfl, h⟩
      omega
theorem tog_chs {N : Int} {L : List S42} (hG : GoodG N L) {s : List Int} (hs : SetL N s) {kind : Int} (hk : kind = 1 ∨ kind = 2) (hh : ¬ hopeless N s kind) : ∃ R, GoodG N R ∧ AccP N R s kind ∧ Ev (fun k => enforce_Toggle.f k N L (chs N L s kind)) (N, R, 0) := by
  have hne := ne_of_hope (L := L) hG.n0 hk hh
  obtain ⟨R, gR, sR, eR⟩ := toggle_ok hG (chs_inr hG hs kind hne) (chs_nodup hG hs kind hne) (by
    have := dut_len hG s kind
    unfold chs
    rw [List.length_map]
    omega)
  exact ⟨R, gR, chs_acc hG hs hk hh hne sR, eR⟩
theorem check_ok {N : Int} {L : List S42} (hG : GoodG N L) {s : List Int} (hs : SetL N s) {kind : Int} (hk : kind = 1 ∨ kind = 2) (hh : ¬ hopeless N s kind) : Ev (fun k => enforce_Check.f k N L kind s (chs N L s kind) (dut N L s kind)) 0 := by
  obtain ⟨R, gR, aR, eR⟩ := tog_chs hG hs hk hh
  simp only [enforce_Check.f]
  refine Ev.bind (args_ok hG hs hk) (Ev.pos rfl (Ev.bind eR (Ev.pos rfl (Ev.bind (acceptable_ok gR hs kind) ?_))))
  rw [(acc_iff gR hs kind).2 aR]
  exact Ev.pos rfl (Ev.bind (proves_ok hG hs kind) (Ev.pos rfl (Ev.const _)))
end Go.Proofs.YtjmdlmogdbhdhaaDoor.P
namespace Go.Proofs.YtjmdlmogdbhdhaaDoor.P
open Go.RowKit Go.Proofs.YtjmdlmogdbhdhaaDoorW.PrintWords Go.Proofs.YtjmdlmogdbhdhaaDoorW.PrintLast Go.Proofs.YtjmdlmogdbhdhaaDoorW.PrintMore
attribute [local go_sem] max2_int min2_int max_two min_two max_three min_three max_four min_four
set_option linter.unusedVariables false
set_option linter.unusedSimpArgs false
def slices_Compare_int_int.l0 : Nat → List Int → List Int → List Int → Int → Int → Option (Int)
 | 0, _, _, _, _, _ => none
 | k + 1, x0, x1, x9, x10, x11 => if x11 < x10 then (if 0 ≤ x11 then (if x11 < (x9.length : Int) then (if x11 ≥ (x1.length : Int) then (some 1) else (if x11 < (x1.length : Int) then ((cmp_Compare_int.f (rd x9 x11) (rd x1 x11)).bind fun t622 => (if t622 = 0 then (slices_Compare_int_int.l0 k x0 x1 x9 x10 (wrap64 (x11 + 1))) else (some t622))) else (none))) else (none)) else (none)) else (if (x0.length : Int) < (x1.length : Int) then (some (-1)) else (some 0))
def slices_Compare_int_int.f (k : Nat) (l0 : List Int) (l1 : List Int) : Option (Int) := slices_Compare_int_int.l0 k l0 l1 l0 (l0.length : Int) 0
set_option maxHeartbeats 8000000 in
set_option maxRecDepth 100000 in
theorem slices_Compare_int_int.calls (k : Nat) (A0 : Option Addr) (c0 : Nat) (l0 : List Int) (A1 : Option Addr) (c1 : Nat) (l1 : List Int) (r : Int) (w : World) (hr0 : Kd.C (Kd.int .i64) w A0 l0.length l0) (hc0 : l0.length ≤ c0) (hr1 : Kd.C (Kd.int .i64) w A1 l1.length l1) (hc1 : l1.length ≤ c1) (h : slices_Compare_int_int.f k l0 l1 = some r) :
 Calls Tryd.prog 55 #[.slice A0 l0.length c0, .slice A1 l1.length c1] w fun e w' => e = .returned (.int .i64 r) ∧ Drawn0 w w' := by
 have HR0 := Aside0.mk hr0; have HC0 := Aside0.mk hc0; clear hr0 hc0; have HR1 := Aside0.mk hr1; have HC1 := Aside0.mk hc1; clear hr1 hc1; have H : (slices_Compare_int_int.l0 k l0 l1 l0 (l0.length : Int) 0) = some r := h; clear h; have H' := Aside0.mk H; clear H; go_enter Tryd.func55, Tryd.ntmps55; go_wp2; go_loopg [11] k (fun kq v11 w' => ∃ (x11_1 : Int), v11 = .int .i64 x11_1 ∧ Aside0 (slices_Compare_int_int.l0 kq l0 l1 l0 (l0.length : Int) x11_1 = some r) ∧ Aside0 (kq ≤ k) ∧ Drawn0 w w')
 case atStart => exact ⟨(0), zv, H', ⟨Nat.le_refl _⟩, by repeat (first | exact Drawn0.refl _ | apply Drawn0.step)⟩
 case round =>
  clear H'; try clear c1
  try clear p2
  obtain ⟨x11_1, rfl, HA, HK1, ⟨m1, rfl⟩⟩ := hrel; cases gk with
  | zero => exact absurd HA.out (by simp [slices_Compare_int_int.l0])
  | succ k1 =>
   have H := HA.out; clear HA; simp only [slices_Compare_int_int.l0] at H; by_cases c3 : x11_1 < (l0.length : Int)
   · rw [if_pos c3] at H; have c3b0 : decide (x11_1 < (l0.length : Int)) = true := decide_eq_true c3; clear c3; by_cases c4 : 0 ≤ x11_1
     · rw [if_pos c4] at H; have c4b0 : decide (0 ≤ x11_1) = true := decide_eq_true c4; clear c4; by_cases c5 : x11_1 < (l0.length : Int)
       · rw [if_pos c5] at H; have c5b0 : decide (x11_1 < (l0.length : Int)) = true := decide_eq_true c5; clear c5; by_cases c6 : x11_1 ≥ (l1.length : Int)
         · rw [if_pos c6] at H; have c6b0 : decide ((l1.length : Int) ≤ x11_1) = true := decide_eq_true c6; clear c6; obtain rfl := Option.some.inj H; have p620 : 0 ≤ (x11_1 : Int) := of_decide_eq_true (by first | (with_reducible assumption) | assumption); have q620 : x11_1 < (l0.length : Int) := of_decide_eq_true (by first | (with_reducible assumption) | assumption); obtain ⟨ad620, e620, hx620_0⟩ := Kd.at_int HR0.out x11_1 p620 q620; cases e620; replace p620 := eq_true p620; replace q620 := eq_true q620; go_wp2; go_ret; exact ⟨by first | rfl | (simp; done) | (simp [*]; done), by repeat (first | exact Drawn0.refl _ | apply Drawn0.step)⟩
         · rw [if_neg c6] at H; have c6b0 : decide ((l1.length : Int) ≤ x11_1) = false := decide_eq_false c6; clear c6; by_cases c7 : x11_1 < (l1.length : Int)
           · rw [if_pos c7] at H; have c7b0 : decide (x11_1 < (l1.length : Int)) = true := decide_eq_true c7; clear c7; replace H := Option.bind_eq_some_iff.mp H; obtain ⟨t622, A80, H⟩ := H; replace H : (if t622 = 0 then (slices_Compare_int_int.l0 k1 l0 l1 l0 (l0.length : Int) (wrap64 (x11_1 + 1))) else (some t622)) = some r := H; have A8 := Aside0.mk A80; clear A80; by_cases c9 : t622 = 0
             · rw [if_pos c9] at H; have c9b0 : (t622 == 0) = true := beq_iff_eq.mpr c9; have c9b1 : (t622 != 0) = false := bne_eq_false_iff_eq.mpr c9; clear c9; have H' := Aside0.mk H; clear H; have p620 : 0 ≤ (x11_1 : Int) := of_decide_eq_true (by first | (with_reducible assumption) | assumption); have q620 : x11_1 < (l0.length : Int) := of_decide_eq_true (by first | (with_reducible assumption) | assumption); obtain ⟨ad620, e620, hx620_0⟩ := Kd.at_int HR0.out x11_1 p620 q620; cases e620; replace p620 := eq_true p620; replace q620 := eq_true q620; have p621 : 0 ≤ (x11_1 : Int) := of_decide_eq_true (by first | (with_reducible assumption) | assumption); have q621 : x11_1 < (l1.length : Int) := of_decide_eq_true (by first | (with_reducible assumption) | assumption); obtain ⟨ad621, e621, hx621_0⟩ := Kd.at_int HR1.out x11_1 p621 q621; cases e621; replace p621 := eq_true p621; replace q621 := eq_true q621; go_wp2_with (first | ((with_reducible refine gate_callee (f := 54) rfl ?_); refine zG (some 26) rfl Tryd.func54 #[.int .i64 (rd l0 x11_1), .int .i64 (rd l1 x11_1)] ?_; (with_reducible refine (cmp_Compare_int.calls (rd l0 x11_1) (rd l1 x11_1) t622 _ A8.out).mono ?_); rintro e w' ⟨rfl, ⟨nd, rfl⟩⟩; refine ⟨_, rfl, ?_⟩)); go_roundg k1
               case measure => have := HK1.out; omega
               case rel => exact ⟨(wrap64 (x11_1 + 1)), zv, H', ⟨by have := HK1.out; omega⟩, by repeat (first | exact Drawn0.refl _ | apply Drawn0.step)⟩
             · rw [if_neg c9] at H; have c9b0 : (t622 == 0) = false := beq_eq_false_iff_ne.mpr c9; have c9b1 : (t622 != 0) = true := bne_iff_ne.mpr c9; obtain rfl := Option.some.inj H; have p620 : 0 ≤ (x11_1 : Int) := of_decide_eq_true (by first | (with_reducible assumption) | assumption); have q620 : x11_1 < (l0.length : Int) := of_decide_eq_true (by first | (with_reducible assumption) | assumption); obtain ⟨ad620, e620, hx620_0⟩ := Kd.at_int HR0.out x11_1 p620 q620; cases e620; replace p620 := eq_true p620; replace q620 := eq_true q620; have p621 : 0 ≤ (x11_1 : Int) := of_decide_eq_true (by first | (with_reducible assumption) | assumption); have q621 : x11_1 < (l1.length : Int) := of_decide_eq_true (by first | (with_reducible assumption) | assumption); obtain ⟨ad621, e621, hx621_0⟩ := Kd.at_int HR1.out x11_1 p621 q621; cases e621; replace p621 := eq_true p621; replace q621 := eq_true q621; go_wp2_with (first | ((with_reducible refine gate_callee (f := 54) rfl ?_); refine zG (some 26) rfl Tryd.func54 #[.int .i64 (rd l0 x11_1), .int .i64 (rd l1 x11_1)] ?_; (with_reducible refine (cmp_Compare_int.calls (rd l0 x11_1) (rd l1 x11_1) t622 _ A8.out).mono ?_); rintro e w' ⟨rfl, ⟨nd, rfl⟩⟩; refine ⟨_, rfl, ?_⟩)); go_ret; exact ⟨by first | rfl | (simp; done) | (simp [*]; done), by repeat (first | exact Drawn0.refl _ | apply Drawn0.step)⟩
           · rw [if_neg c7] at H; exact absurd H (by simp)
       · rw [if_neg c5] at H; exact absurd H (by simp)
     · rw [if_neg c4] at H; exact absurd H (by simp)
   · rw [if_neg c3] at H; have c3b0 : decide (x11_1 < (l0.length : Int)) = false := decide_eq_false c3; clear c3; by_cases c10 : (l0.length : Int) < (l1.length : Int)
     · rw [if_pos c10] at H; have c10b0 : decide ((l0.length : Int) < (l1.length : Int)) = true := decide_eq_true c10; have c10b1 : decide (l0.length < l1.length) = true := decide_eq_true (Int.ofNat_lt.mp c10); clear c10; obtain rfl := Option.some.inj H; go_wp2; go_ret; exact ⟨by first | rfl | (simp; done) | (simp [*]; done), by repeat (first | exact Drawn0.refl _ | apply Drawn0.step)⟩
     · rw [if_neg c10] at H; have c10b0 : decide ((l0.length : Int) < (l1.length : Int)) = false := decide_eq_false c10; have c10b1 : decide (l0.length < l1.length) = false := decide_eq_false (fun h => c10 (Int.ofNat_lt.mpr h)); clear c10; obtain rfl := Option.some.inj H; go_wp2; go_ret; exact ⟨by first | rfl | (simp; done) | (simp [*]; done), by repeat (first | exact Drawn0.refl _ | apply Drawn0.step)⟩
end Go.Proofs.YtjmdlmogdbhdhaaDoor.P
namespace Go.Proofs.YtjmdlmogdbhdhaaDoor.P
open Go.RowKit Go.Proofs.YtjmdlmogdbhdhaaDoorW.PrintWords Go.Proofs.YtjmdlmogdbhdhaaDoorW.PrintLast Go.Proofs.YtjmdlmogdbhdhaaDoorW.PrintMore
attribute [local go_sem] max2_int min2_int max_two min_two max_three min_three max_four min_four
set_option linter.unusedVariables false
set_option linter.unusedSimpArgs false
mutual
def enforce_Loose.l0 : Nat → Int → Int → List Int → List Int → Int → Int → Int → Int → List (S42) → Option (List Int × (List (S42)) × (List (List (S42))) × Int)
 | 0, _, _, _, _, _, _, _, _, _ => none
 | k + 1, x2, x9, x10, x11, x12, x41, x42, x624000, x624001 => if x42 < x41 then (enforce_Loose.l1 k x2 x9 x10 x11 x12 x42 x9 x41 x42 x10 (x10.length : Int) 0 x624000 x624001) else ((enforce_strict.f k x624000 x624001 x11 x2).bind fun bt637 => (some (bt637.1, bt637.2.1, bt637.2.2, 0)))
def enforce_Loose.l1 : Nat → Int → Int → List Int → List Int → Int → Int → Int → Int → Int → List Int → Int → Int → Int → List (S42) → Option (List Int × (List (S42)) × (List (List (S42))) × Int)
 | 0, _, _, _, _, _, _, _, _, _, _, _, _, _, _ => none
 | k + 1, x2, x9, x10, x11, x12, x13, x14, x41, x42, x46, x47, x48, x624000, x624001 => if x48 < x47 then (if 0 ≤ x48 then (if x48 < (x46.length : Int) then (if (Go.bits .and .i64 (shr .i64 x13 x48) 1) = 1 then ((network_Set_With.f x14 (rd x46 x48)).bind fun t647 => (enforce_Loose.l1 k x2 x9 x10 x11 x12 x13 t647 x41 x42 x46 x47 (wrap64 (x48 + 1)) x624000 x624001)) else (enforce_Loose.l1 k x2 x9 x10 x11 x12 x13 x14 x41 x42 x46 x47 (wrap64 (x48 + 1)) x624000 x624001)) else (none)) else (none)) else ((network_Set_List.f k x14).bind fun t648 => ((enforce_hopeless.f x624000 x624001 t648 x2).bind fun t651 => (if t651 = true then (enforce_Loose.l0 k x2 x9 x10 x11 x12 x41 (wrap64 (x42 + 1)) x624000 x624001) else ((enforce_duties.f k x624000 x624001 t648 x2).bind fun t652 => (if x12 < 0 then (enforce_Loose.l0 k x2 x9 x10 t648 (t652.length : Int) x41 (wrap64 (x42 + 1)) x624000 x624001) else ((cmp_Compare_int.f (t652.length : Int) x12).bind fun t655 => ((cmp_Compare_int.f (t648.length : Int) (x11.length : Int)).bind fun t656 => ((slices_Compare_int_int.f k t648 x11).bind fun t657 => ((cmp_Or_int.f k (([t655, t656, t657] : List Int))).bind fun t661 => (if t661 < 0 then (enforce_Loose.l0 k x2 x9 x10 t648 (t652.length : Int) x41 (wrap64 (x42 + 1)) x624000 x624001) else (enforce_Loose.l0 k x2 x9 x10 x11 x12 x41 (wrap64 (x42 + 1)) x624000 x624001)))))))))))
end
def enforce_Loose.f (k : Nat) (a0_0 : Int) (l0_1 : List (S42)) (l1 : List Int) (a2 : Int) : Option (List Int × (List (S42)) × (List (List (S42))) × Int) := (enforce_arguments.f k a0_0 l0_1 l1 a2).bind fun t625 => (if t625 = 0 then ((network_Of.f k l1).bind fun t626 => ((network_New.f k a0_0 l0_1).bind fun bt627 => ((network_Set_List.f k (Go.bits .andNot .u64 bt627.1 t626)).bind fun t634 => (if (t634.length : Int) > 10 then (some (([] : List Int), ([] : List (S42)), ([] : List (List (S42))), 2)) else (enforce_Loose.l0 k a2 t626 t634 ([] : List Int) (-1) (shl .i64 1 (t634.length : Int)) 0 a0_0 l0_1))))) else (some (([] : List Int), ([] : List (S42)), ([] : List (List (S42))), t625)))
set_option maxHeartbeats 8000000 in
set_option maxRecDepth 100000 in
theorem enforce_Loose.calls (k : Nat) (a0_0 : Int) (A0_1 : Option Addr) (c0_1 : Nat) (l0_1 : List (S42)) (A1 : Option Addr) (c1 : Nat) (l1 : List Int) (a2 : Int) (r1 : List Int) (r2 : List (S42)) (r3 : List (List (S42))) (r4 : Int) (w : World) (hr0_1 : Kd.C k42 w A0_1 l0_1.length l0_1) (hc0_1 : l0_1.length ≤ c0_1) (hr1 : Kd.C (Kd.int .i64) w A1 l1.length l1) (hc1 : l1.length ≤ c1) (hT : TabT w) (h : enforce_Loose.f k a0_0 l0_1 l1 a2 = some (r1, r2, r3, r4)) :
 Calls Tryd.prog 25 #[.agg #[.int .i64 a0_0, .slice A0_1 l0_1.length c0_1], .slice A1 l1.length c1, .int .i64 a2] w fun e w' => ∃ v0_ v1_ v2_ : Value, e = .returned (.tuple #[.agg #[v0_, v1_, v2_], .int .i64 r4]) ∧ Kd.R (Kd.int .i64) 3 w' w.heap.size (fun _ => True) v0_ r1 ∧ Kd.R k42 42 w' w.heap.size (fun _ => True) v1_ r2 ∧ Kd.S (Kd.slice 42 k42) 22 w' w.heap.size (fun k_ => some k_ ≠ (v1_ : Value).ownBlock) v2_ r3 ∧ Below w.heap.size w w' := by
 have hu24 := Tryd.underlying24; have hfd : ∀ (t : Int) (A1 A2 : Option Addr) (n1 c1 n2 c2 : Nat) (W : World), (Instr.field 80 (.agg #[.int .u64 t, .slice A1 n1 c1, .slice A2 n2 c2]) 0).run Tryd.prog W = .ok (.int .u64 t) W := fun t A1 A2 n1 c1 n2 c2 W => by kernel_rfl
 have hu28 := Tryd.underlying28; have HR0_1 := Aside0.mk hr0_1; have HC0_1 := Aside0.mk hc0_1; clear hr0_1 hc0_1; have HR1 := Aside0.mk hr1; have HC1 := Aside0.mk hc1; clear hr1 hc1; have HTab := Aside0.mk hT; clear hT; have HB := Aside0.mk (Below.refl w.heap.size w); have H : ((enforce_arguments.f k a0_0 l0_1 l1 a2).bind fun t625 => (if t625 = 0 then ((network_Of.f k l1).bind fun t626 => ((network_New.f k a0_0 l0_1).bind fun bt627 => ((network_Set_List.f k (Go.bits .andNot .u64 bt627.1 t626)).bind fun t634 => (if (t634.length : Int) > 10 then (some (([] : List Int), ([] : List (S42)), ([] : List (List (S42))), 2)) else (enforce_Loose.l0 k a2 t626 t634 ([] : List Int) (-1) (shl .i64 1 (t634.length : Int)) 0 a0_0 l0_1))))) else (some (([] : List Int), ([] : List (S42)), ([] : List (List (S42))), t625)))) = some (r1, r2, r3, r4) := h; clear h; replace H := Option.bind_eq_some_iff.mp H; obtain ⟨t625, A40, H⟩ := H; replace H : (if t625 = 0 then ((network_Of.f k l1).bind fun t626 => ((network_New.f k a0_0 l0_1).bind fun bt627 => ((network_Set_List.f k (Go.bits .andNot .u64 bt627.1 t626)).bind fun t634 => (if (t634.length : Int) > 10 then (some (([] : List Int), ([] : List (S42)), ([] : List (List (S42))), 2)) else (enforce_Loose.l0 k a2 t626 t634 ([] : List Int) (-1) (shl .i64 1 (t634.length : Int)) 0 a0_0 l0_1))))) else (some (([] : List Int), ([] : List (S42)), ([] : List (List (S42))), t625))) = some (r1, r2, r3, r4) := H; have A4 := Aside0.mk A40; clear A40; by_cases c5 : t625 = 0
 · rw [if_pos c5] at H; have c5b0 : (t625 == 0) = true := beq_iff_eq.mpr c5; have c5b1 : (t625 != 0) = false := bne_eq_false_iff_eq.mpr c5; clear c5; replace H := Option.bind_eq_some_iff.mp H; obtain ⟨t626, A60, H⟩ := H; replace H : ((network_New.f k a0_0 l0_1).bind fun bt627 => ((network_Set_List.f k (Go.bits .andNot .u64 bt627.1 t626)).bind fun t634 => (if (t634.length : Int) > 10 then (some (([] : List Int), ([] : List (S42)), ([] : List (List (S42))), 2)) else (enforce_Loose.l0 k a2 t626 t634 ([] : List Int) (-1) (shl .i64 1 (t634.length : Int)) 0 a0_0 l0_1)))) = some (r1, r2, r3, r4) := H; have A6 := Aside0.mk A60; clear A60; replace H := Option.bind_eq_some_iff.mp H; obtain ⟨⟨t627, t628, t631⟩, A70, H⟩ := H; replace H : ((network_Set_List.f k (Go.bits .andNot .u64 t627 t626)).bind fun t634 => (if (t634.length : Int) > 10 then (some (([] : List Int), ([] : List (S42)), ([] : List (List (S42))), 2)) else (enforce_Loose.l0 k a2 t626 t634 ([] : List Int) (-1) (shl .i64 1 (t634.length : Int)) 0 a0_0 l0_1))) = some (r1, r2, r3, r4) := H; have A7 := Aside0.mk A70; clear A70; replace H := Option.bind_eq_some_iff.mp H; obtain ⟨t634, A80, H⟩ := H; replace H : (if (t634.length : Int) > 10 then (some (([] : List Int), ([] : List (S42)), ([] : List (List (S42))), 2)) else (enforce_Loose.l0 k a2 t626 t634 ([] : List Int) (-1) (shl .i64 1 (t634.length : Int)) 0 a0_0 l0_1)) = some (r1, r2, r3, r4) := H; have A8 := Aside0.mk A80; clear A80; by_cases c9 : (t634.length : Int) > 10
   · rw [if_pos c9] at H; have c9b0 : decide (10 < (t634.length : Int)) = true := decide_eq_true c9; have c9b1 : decide (10 < t634.length) = true := decide_eq_true (by omega); clear c9; simp only [Option.some.injEq, Prod.mk.injEq] at H; obtain ⟨rfl, rfl, rfl, rfl⟩ := H; go_enter Tryd.func25, Tryd.ntmps25; go_wp2_with (first | ((with_reducible refine gate_dst (N := 3) rfl ?_); (try (refine gate_guard (by rfl) ?_; dsimp only)); refine zX (N := 3) (cs := #[.int .i64 a0_0, .slice A0_1 l0_1.length c0_1]) (t := 24) ?_; intro gb623 hg w10 hbox hb; have BK623 := Aside0.mk (hbox); have GW623 := Aside0.mk (zW hg HB); have GE623 := Aside0.mk (zW hg HB); replace HB := Aside0.mk (below_step (zB HB) hb); clear hb hbox hg) | ((with_reducible refine gate_dst (N := 6) rfl ?_); (try (refine gate_guard (by rfl) ?_; dsimp only)); refine zX (N := 6) (cs := #[.slice none 0 0, .slice none 0 0, .slice none 0 0]) (t := 28) ?_; intro gb624 hg w11 hbox hb; have BK624 := Aside0.mk (hbox); have GW624 := Aside0.mk (zW hg HB); have GE624 := Aside0.mk (zW hg HB); have NB623_624 := Aside0.mk (zNl hg BK623); have NB624_623 := Aside0.mk (zNr hg BK623); replace BK623 := Aside0.mk (zKb BK623 hb); replace HB := Aside0.mk (below_step (zB HB) hb); clear hb hbox hg; have hnb12 := NB623_624.out; have hnc12 := NB624_623.out; have hcz13_0 := zc BK623 0; have hcz13_1 := zc BK623 1; have hfz13_0 := blk_frozen BK623.out 0; have hfz13_1 := blk_frozen BK623.out 1) | ((with_reducible refine gate_callee (f := 37) rfl ?_); refine zG (some 22) rfl Tryd.func37 #[.agg #[.int .i64 a0_0, .slice A0_1 l0_1.length c0_1], .slice A1 l1.length c1, .int .i64 a2] ?_; (with_reducible refine (enforce_arguments.calls k a0_0 _ _ l0_1 _ _ l1 a2 t625 _ ?side1 ?side2 ?side3 ?side4 A4.out).mono ?_); (case side1 => exact zCb HR0_1 HB); (case side2 => exact HC0_1.out); (case side3 => exact zCb HR1 HB); (case side4 => exact HC1.out); rintro e w14 ⟨rfl, hb⟩; refine ⟨_, rfl, ?_⟩; replace BK623 := Aside0.mk (zKb BK623 hb); replace BK624 := Aside0.mk (zKb BK624 hb); replace HB := Aside0.mk (below_step (zB HB) hb); (try clear hb); (try clear hb2); (try clear hk); (try clear hi)) | ((with_reducible refine gate_callee (f := 48) rfl ?_); refine zG (some 28) rfl Tryd.func48 #[.slice A1 l1.length c1] ?_; (with_reducible refine (network_Of.calls k _ _ l1 t626 _ ?side1 ?side2 A6.out).mono ?_); (case side1 => exact zCb HR1 HB); (case side2 => exact HC1.out); rintro e w' ⟨rfl, ⟨nd, rfl⟩⟩; refine ⟨_, rfl, ?_⟩; (try (rw [drewN_self w14]; generalize hq_ : World.drewN w14 _ = w14; replace BK623 : Aside0 (w14.heap[gb623]? = some (.cells #[.int .i64 a0_0, .slice A0_1 l0_1.length c0_1] 24 (0, 0))) := ⟨by rw [← hq_]; exact (zK BK623)⟩; replace BK624 : Aside0 (w14.heap[gb624]? = some (.cells #[.slice none 0 0, .slice none 0 0, .slice none 0 0] 28 (0, 0))) := ⟨by rw [← hq_]; exact (zK BK624)⟩; replace HB : Aside0 (Below w.heap.size w w14) := ⟨by rw [← hq_]; exact (zB HB)⟩; clear hq_)); have hcz15_0 := zc BK623 0; have hcz15_1 := zc BK623 1; have hfz15_0 := blk_frozen BK623.out 0; have hfz15_1 := blk_frozen BK623.out 1) | ((with_reducible refine gate_callee (f := 49) rfl ?_); refine zG (some 30) rfl Tryd.func49 #[.agg #[.int .i64 a0_0, .slice A0_1 l0_1.length c0_1]] ?_; (with_reducible refine (network_New.calls k a0_0 _ _ l0_1 t627 t628 t631 _ ?side1 ?side2 A7.out).mono ?_); (case side1 => exact zCb HR0_1 HB); (case side2 => exact HC0_1.out); rintro e w16 ⟨v629, v632, rfl, ho0, ho1, hb⟩; refine ⟨_, rfl, ?_⟩; (obtain ⟨Aq1, cq1, eq1⟩ := Kd.R_slice ho0); subst eq1; (obtain ⟨Aq2, cq2, eq2⟩ := Kd.R_slice ho1); subst eq2; have HO630 := Aside0.mk (Kd.R_lower ho0 (below_size (zB HB))); have HO633 := Aside0.mk (Kd.R_lower ho1 (below_size (zB HB))); replace BK623 := Aside0.mk (zKb BK623 hb); replace BK624 := Aside0.mk (zKb BK624 hb); replace HB := Aside0.mk (below_step (zB HB) hb); (try clear hb); (try clear hb2); (try clear hk); (try clear hi); (try clear ho0); (try clear ho1)) | ((with_reducible refine gate_callee (f := 50) rfl ?_); refine zG (some 34) rfl Tryd.func50 #[.int .u64 (Go.bits .andNot .u64 t627 t626)] ?_; (with_reducible refine (network_Set_List.calls k (Go.bits .andNot .u64 t627 t626) t634 _ ?side1 A8.out).mono ?_); (case side1 => exact TabT.now HTab.out (zB HB)); rintro e w17 ⟨v635, rfl, ho0, hb⟩; refine ⟨_, rfl, ?_⟩; have HO636 := Aside0.mk (Kd.R_lower ho0 (below_size (zB HB))); replace HO630 := Aside0.mk (Kd.R_below (zR HO630) hb); replace HO633 := Aside0.mk (Kd.R_below (zR HO633) hb); replace BK623 := Aside0.mk (zKb BK623 hb); replace BK624 := Aside0.mk (zKb BK624 hb); replace HB := Aside0.mk (below_step (zB HB) hb); (try clear hb); (try clear hb2); (try clear hk); (try clear hi); (try clear ho0); obtain ⟨Ao18, co18, eo18⟩ := Kd.R_slice HO636.out; subst eo18; have hcz19_0 := zc BK624 0; have hcz19_1 := zc BK624 1; have hcz19_2 := zc BK624 2; have hfz19_0 := blk_frozen BK624.out 0; have hfz19_1 := blk_frozen BK624.out 1; have hfz19_2 := blk_frozen BK624.out 2)); refine bodyPost_ret (results_ct rfl _ _ gb624 28 #[.slice none 0 0, .slice none 0 0, .slice none 0 0] (0, 0) _ rfl (by refine zk ?_; refine blk_put (cs := #[.slice none 0 0, .slice none 0 0, .slice none 0 0]) ?_ 2 _ rfl; refine zk ?_; refine blk_put (cs := #[.slice none 0 0, .slice none 0 0, .slice none 0 0]) ?_ 1 _ rfl; refine zk ?_; refine blk_put (cs := #[.slice none 0 0, .slice none 0 0, .slice none 0 0]) ?_ 0 _ rfl; refine zk ?_; exact BK624.out) Tryd.underlying28 rfl (by kernel_rfl)) rfl ?_; exact ⟨_, _, _, by first | rfl | (simp [errW_none, errW_some] <;> rfl) | (simp [*, errW_none, errW_some] <;> rfl), by first | exact Kd.R_nil _ _ _ _ _ | exact Kd.N_nil _ _ _ _ _ | exact Kd.V_nil _ _ _ _ _ | exact Kd.Q_nil _ _ _ _ _ | exact Kd.S_nil _ _ _ _ _ | exact Kd.R_nil _ _ _ 0 _, by first | exact Kd.R_nil _ _ _ _ _ | exact Kd.N_nil _ _ _ _ _ | exact Kd.V_nil _ _ _ _ _ | exact Kd.Q_nil _ _ _ _ _ | exact Kd.S_nil _ _ _ _ _ | exact Kd.R_nil _ _ _ 0 _, by first | exact Kd.S_nil _ _ _ _ _ | exact Kd.N_nil _ _ _ _ _ | exact Kd.V_nil _ _ _ _ _ | exact Kd.Q_nil _ _ _ _ _ | exact Kd.R_nil _ _ _ _ _ | exact Kd.R_nil _ _ _ 0 _, zB HB⟩
   · rw [if_neg c9] at H; have c9b0 : decide (10 < (t634.length : Int)) = false := decide_eq_false c9; have c9b1 : decide (10 < t634.length) = false := decide_eq_false (by omega); clear c9; obtain ⟨ji20, hji20⟩ : ∃ j_ : Int, (shl .i64 1 (t634.length : Int)) = j_ := ⟨_, rfl⟩; replace H : (enforce_Loose.l0 k a2 t626 t634 ([] : List Int) (-1) ji20 0 a0_0 l0_1) = some (r1, r2, r3, r4) := by first | (rw [hji20] at H; exact H) | (simp only [hji20] at H ⊢; exact H)
     (try rw [hji20] at A4); (try rw [hji20] at A6); (try rw [hji20] at A7); (try rw [hji20] at A8); have hji20_ : (IntKind.i64.wrap (1 * 2 ^ min (t634.length : Int).toNat 64)) = ji20 := hji20; have hji20z : (t634.length : Int) ≤ 64 → (IntKind.i64.wrap (1 * 2 ^ (t634.length : Int).toNat)) = ji20 := shl_small hji20; have hji20p : (IntKind.i64.wrap (1 * 2 ^ min t634.length 64)) = ji20 := hji20_; have hji20q : (t634.length : Int) ≤ 64 → (IntKind.i64.wrap (1 * 2 ^ t634.length)) = ji20 := hji20z; have hji20r : (IntKind.i64.wrap (2 ^ min t634.length 64)) = ji20 := by have h_ := hji20p; rw [Int.one_mul] at h_; exact h_
     have hji20s : (t634.length : Int) ≤ 64 → (IntKind.i64.wrap (2 ^ t634.length)) = ji20 := fun hle_ => by have h_ := hji20q hle_; rw [Int.one_mul] at h_; exact h_
     have hji20u : (IntKind.i64.wrap (2 ^ min (t634.length : Int).toNat 64)) = ji20 := by have h_ := hji20_; rw [Int.one_mul] at h_; exact h_
     have hji20v : (t634.length : Int) ≤ 64 → (IntKind.i64.wrap (2 ^ (t634.length : Int).toNat)) = ji20 := fun hle_ => by have h_ := hji20z hle_; rw [Int.one_mul] at h_; exact h_
     have hji20y : (wrap64 (1 * 2 ^ min (t634.length : Int).toNat 64)) = ji20 := (i64_w _).symm.trans hji20_; have hji20x : (t634.length : Int) ≤ 64 → (wrap64 (1 * 2 ^ (t634.length : Int).toNat)) = ji20 := fun h_ => (i64_w _).symm.trans (hji20z h_)
     have H' := Aside0.mk H; clear H; go_enter Tryd.func25, Tryd.ntmps25; go_wp2_with (first | ((with_reducible refine gate_dst (N := 3) rfl ?_); (try (refine gate_guard (by rfl) ?_; dsimp only)); refine zX (N := 3) (cs := #[.int .i64 a0_0, .slice A0_1 l0_1.length c0_1]) (t := 24) ?_; intro gb623 hg w21 hbox hb; have BK623 := Aside0.mk (hbox); have GW623 := Aside0.mk (zW hg HB); have GE623 := Aside0.mk (zW hg HB); replace HB := Aside0.mk (below_step (zB HB) hb); clear hb hbox hg) | ((with_reducible refine gate_dst (N := 6) rfl ?_); (try (refine gate_guard (by rfl) ?_; dsimp only)); refine zX (N := 6) (cs := #[.slice none 0 0, .slice none 0 0, .slice none 0 0]) (t := 28) ?_; intro gb624 hg w22 hbox hb; have BK624 := Aside0.mk (hbox); have GW624 := Aside0.mk (zW hg HB); have GE624 := Aside0.mk (zW hg HB); have NB623_624 := Aside0.mk (zNl hg BK623); have NB624_623 := Aside0.mk (zNr hg BK623); replace BK623 := Aside0.mk (zKb BK623 hb); replace HB := Aside0.mk (below_step (zB HB) hb); clear hb hbox hg; have hnb23 := NB623_624.out; have hnc23 := NB624_623.out; have hcz24_0 := zc BK623 0; have hcz24_1 := zc BK623 1; have hfz24_0 := blk_frozen BK623.out 0; have hfz24_1 := blk_frozen BK623.out 1) | ((with_reducible refine gate_callee (f := 37) rfl ?_); refine zG (some 22) rfl Tryd.func37 #[.agg #[.int .i64 a0_0, .slice A0_1 l0_1.length c0_1], .slice A1 l1.length c1, .int .i64 a2] ?_; (with_reducible refine (enforce_arguments.calls k a0_0 _ _ l0_1 _ _ l1 a2 t625 _ ?side1 ?side2 ?side3 ?side4 A4.out).mono ?_); (case side1 => exact zCb HR0_1 HB); (case side2 => exact HC0_1.out); (case side3 => exact zCb HR1 HB); (case side4 => exact HC1.out); rintro e w25 ⟨rfl, hb⟩; refine ⟨_, rfl, ?_⟩; replace BK623 := Aside0.mk (zKb BK623 hb); replace BK624 := Aside0.mk (zKb BK624 hb); replace HB := Aside0.mk (below_step (zB HB) hb); (try clear hb); (try clear hb2); (try clear hk); (try clear hi)) | ((with_reducible refine gate_callee (f := 48) rfl ?_); refine zG (some 28) rfl Tryd.func48 #[.slice A1 l1.length c1] ?_; (with_reducible refine (network_Of.calls k _ _ l1 t626 _ ?side1 ?side2 A6.out).mono ?_); (case side1 => exact zCb HR1 HB); (case side2 => exact HC1.out); rintro e w' ⟨rfl, ⟨nd, rfl⟩⟩; refine ⟨_, rfl, ?_⟩; have hcz26_0 := zc BK623 0; have hcz26_1 := zc BK623 1; have hfz26_0 := blk_frozen BK623.out 0; have hfz26_1 := blk_frozen BK623.out 1) | ((with_reducible refine gate_callee (f := 49) rfl ?_); refine zG (some 30) rfl Tryd.func49 #[.agg #[.int .i64 a0_0, .slice A0_1 l0_1.length c0_1]] ?_; (with_reducible refine (network_New.calls k a0_0 _ _ l0_1 t627 t628 t631 _ ?side1 ?side2 A7.out).mono ?_); (case side1 => repeat (first | exact (Kd.C_below HR0_1.out (zB HB)) | (with_reducible refine Kd.C_alloc ?_ _) | (with_reducible refine Kd.C_drewN ?_ _) | (with_reducible refine Kd.C_drew ?_))); (case side2 => exact HC0_1.out); rintro e w27 ⟨v629, v632, rfl, ho0, ho1, hb⟩; refine ⟨_, rfl, ?_⟩; (obtain ⟨Aq1, cq1, eq1⟩ := Kd.R_slice ho0); subst eq1; (obtain ⟨Aq2, cq2, eq2⟩ := Kd.R_slice ho1); subst eq2; have HO630 := Aside0.mk (Kd.R_lower ho0 (below_size (zB HB))); have HO633 := Aside0.mk (Kd.R_lower ho1 (below_size (zB HB))); replace BK623 := Aside0.mk (zKb BK623 hb); replace BK624 := Aside0.mk (zKb BK624 hb); replace HB := Aside0.mk (below_step (zB HB) hb); (try clear hb); (try clear hb2); (try clear hk); (try clear hi); (try clear ho0); (try clear ho1)) | ((with_reducible refine gate_callee (f := 50) rfl ?_); refine zG (some 34) rfl Tryd.func50 #[.int .u64 (Go.bits .andNot .u64 t627 t626)] ?_; (with_reducible refine (network_Set_List.calls k (Go.bits .andNot .u64 t627 t626) t634 _ ?side1 A8.out).mono ?_); (case side1 => exact TabT.now HTab.out (zB HB)); rintro e w28 ⟨v635, rfl, ho0, hb⟩; refine ⟨_, rfl, ?_⟩; have HO636 := Aside0.mk (Kd.R_lower ho0 (below_size (zB HB))); replace HO630 := Aside0.mk (Kd.R_below (zR HO630) hb); replace HO633 := Aside0.mk (Kd.R_below (zR HO633) hb); replace BK623 := Aside0.mk (zKb BK623 hb); replace BK624 := Aside0.mk (zKb BK624 hb); replace HB := Aside0.mk (below_step (zB HB) hb); (try clear hb); (try clear hb2); (try clear hk); (try clear hi); (try clear ho0); obtain ⟨Ao29, co29, eo29⟩ := Kd.R_slice HO636.out; subst eo29)); go_loopg [11, 12, 42] k (fun kq v11 v12 v42 w' => ∃ (x11_1 : List Int) (x12_1 : Int) (x42_1 : Int), v12 = .int .i64 x12_1 ∧ v42 = .int .i64 x42_1 ∧ Aside0 (enforce_Loose.l0 kq a2 t626 t634 x11_1 x12_1 ji20 x42_1 a0_0 l0_1 = some (r1, r2, r3, r4)) ∧ Aside0 (kq ≤ k) ∧ Aside0 (Kd.R (Kd.int .i64) 3 w' w.heap.size (fun k_ => some k_ ≠ (v11 : Value).ownBlock) (.slice Ao29 t634.length co29) t634) ∧ Aside0 (Kd.R (Kd.int .i64) 3 w' w.heap.size (fun k_ => some k_ ≠ ((.slice Ao29 t634.length co29) : Value).ownBlock) v11 x11_1) ∧ Aside0 (w'.heap[gb623]? = some (.cells #[.int .i64 a0_0, (.slice A0_1 l0_1.length c0_1)] 24 (0, 0))) ∧ Aside0 (w'.heap[gb624]? = some (.cells #[(.slice none 0 0), (.slice none 0 0), (.slice none 0 0)] 28 (0, 0))) ∧ Aside0 (Below w.heap.size w w'))
     case atStart => exact ⟨(([] : List Int)), ((-1)), (0), zv, zv, H', ⟨Nat.le_refl _⟩, ⟨by refine zkR ?_; exact Kd.R_mono HO636.out (fun _ hk => (by simp [Value.ownBlock]))⟩, ⟨by first | exact Kd.R_nil _ _ _ _ _ | exact Kd.N_nil _ _ _ _ _ | exact Kd.V_nil _ _ _ _ _ | exact Kd.Q_nil _ _ _ _ _ | exact Kd.S_nil _ _ _ _ _ | exact Kd.R_nil _ _ _ 0 _⟩, ⟨zK BK623⟩, ⟨zK BK624⟩, ⟨zB HB⟩⟩
     case round =>
      clear H'; try clear c1
      try clear c2
      try clear p2
      try clear c3
      try clear c4
      try clear c5
      try clear c5b0
      try clear c5b1
      try clear p6
      try clear c9
      try clear c9b0
      try clear c9b1
      try clear c12
      try clear c23
      try clear c25
      try clear hcz13_0
      try clear hcz13_1
      try clear hcz15_0
      try clear hcz15_1
      try clear hcz19_0
      try clear hcz19_1
      try clear hcz19_2
      try clear hcz24_0
      try clear hcz24_1
      try clear hcz26_0
      try clear hcz26_1
      try clear hfz13_0
      try clear hfz13_1
      try clear hfz15_0
      try clear hfz15_1
      try clear hfz19_0
      try clear hfz19_1
      try clear hfz19_2
      try clear hfz24_0
      try clear hfz24_1
      try clear hfz26_0
      try clear hfz26_1
      obtain ⟨x11_1, x12_1, x42_1, rfl, rfl, HA, HK1, HO_10, HO_11, BK623, BK624, HB⟩ := hrel; cases gk with
      | zero => exact absurd HA.out (by simp [enforce_Loose.l0])
      | succ k1 =>
       have H := HA.out; clear HA; simp only [enforce_Loose.l0] at H; by_cases c30 : x42_1 < ji20
       · rw [if_pos c30] at H; have c30b0 : decide (x42_1 < ji20) = true := decide_eq_true c30; clear c30; have H' := Aside0.mk H; clear H; go_wp2; go_loopg [14, 48] k1 (fun kq v14 v48 w' => ∃ (x14_2 : Int) (x48_2 : Int), v14 = .int .u64 x14_2 ∧ v48 = .int .i64 x48_2 ∧ Aside0 (enforce_Loose.l1 kq a2 t626 t634 x11_1 x12_1 x42_1 x14_2 ji20 x42_1 t634 (t634.length : Int) x48_2 a0_0 l0_1 = some (r1, r2, r3, r4)) ∧ Aside0 (kq ≤ k1) ∧ Aside0 (Kd.R (Kd.int .i64) 3 w' w.heap.size (fun k_ => some k_ ≠ (u11 : Value).ownBlock) (.slice Ao29 t634.length co29) t634) ∧ Aside0 (Kd.R (Kd.int .i64) 3 w' w.heap.size (fun k_ => some k_ ≠ ((.slice Ao29 t634.length co29) : Value).ownBlock ∧ some k_ ≠ ((.slice Ao29 t634.length co29) : Value).ownBlock) u11 x11_1) ∧ Aside0 (Kd.R (Kd.int .i64) 3 w' w.heap.size (fun k_ => some k_ ≠ (u11 : Value).ownBlock) (.slice Ao29 t634.length co29) t634) ∧ Aside0 (w'.heap[gb623]? = some (.cells #[.int .i64 a0_0, (.slice A0_1 l0_1.length c0_1)] 24 (0, 0))) ∧ Aside0 (w'.heap[gb624]? = some (.cells #[(.slice none 0 0), (.slice none 0 0), (.slice none 0 0)] 28 (0, 0))) ∧ Aside0 (Below w.heap.size w w'))
         case atStart => exact ⟨(t626), (0), zv, zv, H', ⟨Nat.le_refl _⟩, ⟨zR HO_10⟩, ⟨by refine zkR ?_; exact Kd.R_mono HO_11.out (fun _ hk => ⟨hk, hk⟩)⟩, ⟨zR HO_10⟩, ⟨zK BK623⟩, ⟨zK BK624⟩, ⟨zB HB⟩⟩
         case round =>
          clear H'; try clear c1
          try clear c2
          try clear p2
          try clear c3
          try clear c4
          try clear c5
          try clear c5b0
          try clear c5b1
          try clear p6
          try clear c9
          try clear c9b0
          try clear c9b1
          try clear c12
          try clear c23
          try clear c25
          try clear c30
          try clear c30b0
          try clear hcz13_0
          try clear hcz13_1
          try clear hcz15_0
          try clear hcz15_1
          try clear hcz19_0
          try clear hcz19_1
          try clear hcz19_2
          try clear hcz24_0
          try clear hcz24_1
          try clear hcz26_0
          try clear hcz26_1
          try clear hfz13_0
          try clear hfz13_1
          try clear hfz15_0
          try clear hfz15_1
          try clear hfz19_0
          try clear hfz19_1
          try clear hfz19_2
          try clear hfz24_0
          try clear hfz24_1
          try clear hfz26_0
          try clear hfz26_1
          try clear p2
          try clear p6
          obtain ⟨x14_2, x48_2, rfl, rfl, HA, HK2, HO_10, HO_11, HO_46, BK623, BK624, HB⟩ := hrel; cases gk with
          | zero => exact absurd HA.out (by simp [enforce_Loose.l1])
          | succ k2 =>
           have H := HA.out; clear HA; simp only [enforce_Loose.l1] at H; by_cases c31 : x48_2 < (t634.length : Int)
           · rw [if_pos c31] at H; have c31b0 : decide (x48_2 < (t634.length : Int)) = true := decide_eq_true c31; clear c31; by_cases c32 : 0 ≤ x48_2
             · rw [if_pos c32] at H; have c32b0 : decide (0 ≤ x48_2) = true := decide_eq_true c32; clear c32; by_cases c33 : x48_2 < (t634.length : Int)
               · rw [if_pos c33] at H; have c33b0 : decide (x48_2 < (t634.length : Int)) = true := decide_eq_true c33; clear c33; have c34b0 := eq_true (of_decide_eq_true (by first | (with_reducible assumption) | assumption) : 0 ≤ x48_2); obtain ⟨ji35, hji35⟩ : ∃ j_ : Int, (shr .i64 x42_1 x48_2) = j_ := ⟨_, rfl⟩; replace H : (if (Go.bits .and .i64 (ji35) 1) = 1 then ((network_Set_With.f x14_2 (rd t634 x48_2)).bind fun t647 => (enforce_Loose.l1 k2 a2 t626 t634 x11_1 x12_1 x42_1 t647 ji20 x42_1 t634 (t634.length : Int) (wrap64 (x48_2 + 1)) a0_0 l0_1)) else (enforce_Loose.l1 k2 a2 t626 t634 x11_1 x12_1 x42_1 x14_2 ji20 x42_1 t634 (t634.length : Int) (wrap64 (x48_2 + 1)) a0_0 l0_1)) = some (r1, r2, r3, r4) := by first | (rw [hji35] at H; exact H) | (simp only [hji35] at H ⊢; exact H)
                 have hji35_ : (x42_1 / 2 ^ min x48_2.toNat 64) = ji35 := hji35; have hji35z : x48_2 ≤ 64 → (x42_1 / 2 ^ x48_2.toNat) = ji35 := shr_small hji35; by_cases c36 : (Go.bits .and .i64 (ji35) 1) = 1
                 · rw [if_pos c36] at H; have c36b0 : ((Go.bits .and .i64 (ji35) 1) == 1) = true := beq_iff_eq.mpr c36; have c36b1 : ((Go.bits .and .i64 (ji35) 1) != 1) = false := bne_eq_false_iff_eq.mpr c36; clear c36; replace H := Option.bind_eq_some_iff.mp H; obtain ⟨t647, A370, H⟩ := H; replace H : (enforce_Loose.l1 k2 a2 t626 t634 x11_1 x12_1 x42_1 t647 ji20 x42_1 t634 (t634.length : Int) (wrap64 (x48_2 + 1)) a0_0 l0_1) = some (r1, r2, r3, r4) := H; have A37 := Aside0.mk A370; clear A370; have H' := Aside0.mk H; clear H; have p646 : 0 ≤ (x48_2 : Int) := of_decide_eq_true (by first | (with_reducible assumption) | assumption); have q646 : x48_2 < (t634.length : Int) := of_decide_eq_true (by first | (with_reducible assumption) | assumption); obtain ⟨ad646, e646, hx646_0⟩ := Kd.at_int (Kd.R_reads' HO_46.out).2.2 x48_2 p646 q646; cases e646; replace p646 := eq_true p646; replace q646 := eq_true q646; go_wp2_with (first | ((with_reducible refine gate_callee (f := 51) rfl ?_); refine zG (some 60) rfl Tryd.func51 #[.int .u64 x14_2, .int .i64 (rd t634 x48_2)] ?_; (with_reducible refine (network_Set_With.calls x14_2 (rd t634 x48_2) t647 _ A37.out).mono ?_); rintro e w' ⟨rfl, ⟨nd, rfl⟩⟩; refine ⟨_, rfl, ?_⟩)); go_roundg k2
                   case measure => have := HK1.out; have := HK2.out; omega
                   case rel => exact ⟨(t647), (wrap64 (x48_2 + 1)), zv, zv, H', ⟨by have := HK1.out; have := HK2.out; omega⟩, ⟨zR HO_10⟩, ⟨zR HO_11⟩, ⟨zR HO_46⟩, ⟨zK BK623⟩, ⟨zK BK624⟩, ⟨zB HB⟩⟩
                 · rw [if_neg c36] at H; have c36b0 : ((Go.bits .and .i64 (ji35) 1) == 1) = false := beq_eq_false_iff_ne.mpr c36; have c36b1 : ((Go.bits .and .i64 (ji35) 1) != 1) = true := bne_iff_ne.mpr c36; have H' := Aside0.mk H; clear H; have p646 : 0 ≤ (x48_2 : Int) := of_decide_eq_true (by first | (with_reducible assumption) | assumption); have q646 : x48_2 < (t634.length : Int) := of_decide_eq_true (by first | (with_reducible assumption) | assumption); obtain ⟨ad646, e646, hx646_0⟩ := Kd.at_int (Kd.R_reads' HO_46.out).2.2 x48_2 p646 q646; cases e646; replace p646 := eq_true p646; replace q646 := eq_true q646; go_wp2; go_roundg k2
                   case measure => have := HK1.out; have := HK2.out; omega
                   case rel => exact ⟨(x14_2), (wrap64 (x48_2 + 1)), zv, zv, H', ⟨by have := HK1.out; have := HK2.out; omega⟩, ⟨zR HO_10⟩, ⟨zR HO_11⟩, ⟨zR HO_46⟩, ⟨zK BK623⟩, ⟨zK BK624⟩, ⟨zB HB⟩⟩
               · rw [if_neg c33] at H; exact absurd H (by simp)
             · rw [if_neg c32] at H; exact absurd H (by simp)
           · rw [if_neg c31] at H; have c31b0 : decide (x48_2 < (t634.length : Int)) = false := decide_eq_false c31; clear c31; replace H := Option.bind_eq_some_iff.mp H; obtain ⟨t648, A380, H⟩ := H; replace H : ((enforce_hopeless.f a0_0 l0_1 t648 a2).bind fun t651 => (if t651 = true then (enforce_Loose.l0 k2 a2 t626 t634 x11_1 x12_1 ji20 (wrap64 (x42_1 + 1)) a0_0 l0_1) else ((enforce_duties.f k2 a0_0 l0_1 t648 a2).bind fun t652 => (if x12_1 < 0 then (enforce_Loose.l0 k2 a2 t626 t634 t648 (t652.length : Int) ji20 (wrap64 (x42_1 + 1)) a0_0 l0_1) else ((cmp_Compare_int.f (t652.length : Int) x12_1).bind fun t655 => ((cmp_Compare_int.f (t648.length : Int) (x11_1.length : Int)).bind fun t656 => ((slices_Compare_int_int.f k2 t648 x11_1).bind fun t657 => ((cmp_Or_int.f k2 (([t655, t656, t657] : List Int))).bind fun t661 => (if t661 < 0 then (enforce_Loose.l0 k2 a2 t626 t634 t648 (t652.length : Int) ji20 (wrap64 (x42_1 + 1)) a0_0 l0_1) else (enforce_Loose.l0 k2 a2 t626 t634 x11_1 x12_1 ji20 (wrap64 (x42_1 + 1)) a0_0 l0_1)))))))))) = some (r1, r2, r3, r4) := H; have A38 := Aside0.mk A380; clear A380; replace H := Option.bind_eq_some_iff.mp H; obtain ⟨t651, A390, H⟩ := H; replace H : (if t651 = true then (enforce_Loose.l0 k2 a2 t626 t634 x11_1 x12_1 ji20 (wrap64 (x42_1 + 1)) a0_0 l0_1) else ((enforce_duties.f k2 a0_0 l0_1 t648 a2).bind fun t652 => (if x12_1 < 0 then (enforce_Loose.l0 k2 a2 t626 t634 t648 (t652.length : Int) ji20 (wrap64 (x42_1 + 1)) a0_0 l0_1) else ((cmp_Compare_int.f (t652.length : Int) x12_1).bind fun t655 => ((cmp_Compare_int.f (t648.length : Int) (x11_1.length : Int)).bind fun t656 => ((slices_Compare_int_int.f k2 t648 x11_1).bind fun t657 => ((cmp_Or_int.f k2 (([t655, t656, t657] : List Int))).bind fun t661 => (if t661 < 0 then (enforce_Loose.l0 k2 a2 t626 t634 t648 (t652.length : Int) ji20 (wrap64 (x42_1 + 1)) a0_0 l0_1) else (enforce_Loose.l0 k2 a2 t626 t634 x11_1 x12_1 ji20 (wrap64 (x42_1 + 1)) a0_0 l0_1))))))))) = some (r1, r2, r3, r4) := H; have A39 := Aside0.mk A390; clear A390; by_cases c40 : t651 = true
             · subst c40; have H1 : (enforce_Loose.l0 k2 a2 t626 t634 x11_1 x12_1 ji20 (wrap64 (x42_1 + 1)) a0_0 l0_1) = some (r1, r2, r3, r4) := by rw [if_pos rfl] at H; exact H
               clear H; have H := H1; clear H1; have H' := Aside0.mk H; clear H; go_wp2_with (first | ((with_reducible refine gate_callee (f := 50) rfl ?_); refine zG (some 63) rfl Tryd.func50 #[.int .u64 x14_2] ?_; (with_reducible refine (network_Set_List.calls k2 x14_2 t648 _ ?side1 A38.out).mono ?_); (case side1 => exact TabT.now HTab.out (zB HB)); rintro e w41 ⟨v649, rfl, ho0, hb⟩; refine ⟨_, rfl, ?_⟩; have HO650 := Aside0.mk (Kd.R_lower (Kd.R_new' (Kd.R_new' (Kd.R_new' ho0 (Kd.R_lt (zR HO_10))) (Kd.R_lt (zR HO_11))) (Kd.R_lt (zR HO_46))) (below_size (zB HB))); replace HO_10 := Aside0.mk (Kd.R_elder' (zR HO_10) (Kd.R_base ho0) hb); replace HO_11 := Aside0.mk (Kd.R_elder' (zR HO_11) (Kd.R_base ho0) hb); replace HO_46 := Aside0.mk (Kd.R_elder' (zR HO_46) (Kd.R_base ho0) hb); replace BK623 := Aside0.mk (zKb BK623 hb); replace BK624 := Aside0.mk (zKb BK624 hb); replace HB := Aside0.mk (below_step (zB HB) hb); (try clear hb); (try clear hb2); (try clear hk); (try clear hi); (try clear ho0); have hnb42 := NB623_624.out; have hnc42 := NB624_623.out; have hcz43_0 := zc BK623 0; have hcz43_1 := zc BK623 1; have hfz43_0 := blk_frozen BK623.out 0; have hfz43_1 := blk_frozen BK623.out 1; obtain ⟨Ao44, co44, eo44⟩ := Kd.R_slice HO650.out; subst eo44) | ((with_reducible refine gate_callee (f := 46) rfl ?_); refine zG (some 67) rfl Tryd.func46 #[.agg #[.int .i64 a0_0, .slice A0_1 l0_1.length c0_1], .slice Ao44 t648.length co44, .int .i64 a2] ?_; (with_reducible refine (enforce_hopeless.calls a0_0 _ _ l0_1 _ _ t648 a2 true _ ?side1 ?side2 ?side3 ?side4 A39.out).mono ?_); (case side1 => exact zCb HR0_1 HB); (case side2 => exact HC0_1.out); (case side3 => repeat (first | exact (Kd.R_reads' HO650.out).2.2 | (with_reducible refine Kd.C_alloc ?_ _) | (with_reducible refine Kd.C_drewN ?_ _) | (with_reducible refine Kd.C_drew ?_))); (case side4 => exact (Kd.R_reads' HO650.out).2.1); rintro e w45 ⟨rfl, hb⟩; refine ⟨_, rfl, ?_⟩; replace HO_10 := Aside0.mk (Kd.R_below (zR HO_10) hb); replace HO_11 := Aside0.mk (Kd.R_below (zR HO_11) hb); replace HO_46 := Aside0.mk (Kd.R_below (zR HO_46) hb); replace HO650 := Aside0.mk (Kd.R_below (zR HO650) hb); replace BK623 := Aside0.mk (zKb BK623 hb); replace BK624 := Aside0.mk (zKb BK624 hb); replace HB := Aside0.mk (below_step (zB HB) hb); (try clear hb); (try clear hb2); (try clear hk); (try clear hi))); go_roundg k2
               case measure => have := HK1.out; have := HK2.out; omega
               case rel => exact ⟨(x11_1), (x12_1), (wrap64 (x42_1 + 1)), zv, zv, H', ⟨by have := HK1.out; have := HK2.out; omega⟩, ⟨by refine zkR ?_; exact Kd.R_mono HO_10.out (fun _ hk => hk.1)⟩, ⟨by refine zkR ?_; exact Kd.R_mono HO_11.out (fun _ hk => hk.1.1)⟩, ⟨zK BK623⟩, ⟨zK BK624⟩, ⟨zB HB⟩⟩
             · replace c40 := Bool.eq_false_iff.mpr c40; subst c40; have H1 : ((enforce_duties.f k2 a0_0 l0_1 t648 a2).bind fun t652 => (if x12_1 < 0 then (enforce_Loose.l0 k2 a2 t626 t634 t648 (t652.length : Int) ji20 (wrap64 (x42_1 + 1)) a0_0 l0_1) else ((cmp_Compare_int.f (t652.length : Int) x12_1).bind fun t655 => ((cmp_Compare_int.f (t648.length : Int) (x11_1.length : Int)).bind fun t656 => ((slices_Compare_int_int.f k2 t648 x11_1).bind fun t657 => ((cmp_Or_int.f k2 (([t655, t656, t657] : List Int))).bind fun t661 => (if t661 < 0 then (enforce_Loose.l0 k2 a2 t626 t634 t648 (t652.length : Int) ji20 (wrap64 (x42_1 + 1)) a0_0 l0_1) else (enforce_Loose.l0 k2 a2 t626 t634 x11_1 x12_1 ji20 (wrap64 (x42_1 + 1)) a0_0 l0_1)))))))) = some (r1, r2, r3, r4) := by rw [if_neg (show ¬ (false = true) by decide)] at H; exact H
               clear H; have H := H1; clear H1; replace H := Option.bind_eq_some_iff.mp H; obtain ⟨t652, A460, H⟩ := H; replace H : (if x12_1 < 0 then (enforce_Loose.l0 k2 a2 t626 t634 t648 (t652.length : Int) ji20 (wrap64 (x42_1 + 1)) a0_0 l0_1) else ((cmp_Compare_int.f (t652.length : Int) x12_1).bind fun t655 => ((cmp_Compare_int.f (t648.length : Int) (x11_1.length : Int)).bind fun t656 => ((slices_Compare_int_int.f k2 t648 x11_1).bind fun t657 => ((cmp_Or_int.f k2 (([t655, t656, t657] : List Int))).bind fun t661 => (if t661 < 0 then (enforce_Loose.l0 k2 a2 t626 t634 t648 (t652.length : Int) ji20 (wrap64 (x42_1 + 1)) a0_0 l0_1) else (enforce_Loose.l0 k2 a2 t626 t634 x11_1 x12_1 ji20 (wrap64 (x42_1 + 1)) a0_0 l0_1))))))) = some (r1, r2, r3, r4) := H; have A46 := Aside0.mk A460; clear A460; by_cases c47 : x12_1 < 0
               · rw [if_pos c47] at H; have c47b0 : decide (x12_1 < 0) = true := decide_eq_true c47; clear c47; have H' := Aside0.mk H; clear H; go_wp2_with (first | ((with_reducible refine gate_callee (f := 50) rfl ?_); refine zG (some 63) rfl Tryd.func50 #[.int .u64 x14_2] ?_; (with_reducible refine (network_Set_List.calls k2 x14_2 t648 _ ?side1 A38.out).mono ?_); (case side1 => exact TabT.now HTab.out (zB HB)); rintro e w48 ⟨v649, rfl, ho0, hb⟩; refine ⟨_, rfl, ?_⟩; have HO650 := Aside0.mk (Kd.R_lower (Kd.R_new' (Kd.R_new' (Kd.R_new' ho0 (Kd.R_lt (zR HO_10))) (Kd.R_lt (zR HO_11))) (Kd.R_lt (zR HO_46))) (below_size (zB HB))); replace HO_10 := Aside0.mk (Kd.R_elder' (zR HO_10) (Kd.R_base ho0) hb); replace HO_11 := Aside0.mk (Kd.R_elder' (zR HO_11) (Kd.R_base ho0) hb); replace HO_46 := Aside0.mk (Kd.R_elder' (zR HO_46) (Kd.R_base ho0) hb); replace BK623 := Aside0.mk (zKb BK623 hb); replace BK624 := Aside0.mk (zKb BK624 hb); replace HB := Aside0.mk (below_step (zB HB) hb); (try clear hb); (try clear hb2); (try clear hk); (try clear hi); (try clear ho0); have hnb49 := NB623_624.out; have hnc49 := NB624_623.out; have hcz50_0 := zc BK623 0; have hcz50_1 := zc BK623 1; have hfz50_0 := blk_frozen BK623.out 0; have hfz50_1 := blk_frozen BK623.out 1; obtain ⟨Ao51, co51, eo51⟩ := Kd.R_slice HO650.out; subst eo51) | ((with_reducible refine gate_callee (f := 46) rfl ?_); refine zG (some 67) rfl Tryd.func46 #[.agg #[.int .i64 a0_0, .slice A0_1 l0_1.length c0_1], .slice Ao51 t648.length co51, .int .i64 a2] ?_; (with_reducible refine (enforce_hopeless.calls a0_0 _ _ l0_1 _ _ t648 a2 false _ ?side1 ?side2 ?side3 ?side4 A39.out).mono ?_); (case side1 => exact zCb HR0_1 HB); (case side2 => exact HC0_1.out); (case side3 => repeat (first | exact (Kd.R_reads' HO650.out).2.2 | (with_reducible refine Kd.C_alloc ?_ _) | (with_reducible refine Kd.C_drewN ?_ _) | (with_reducible refine Kd.C_drew ?_))); (case side4 => exact (Kd.R_reads' HO650.out).2.1); rintro e w52 ⟨rfl, hb⟩; refine ⟨_, rfl, ?_⟩; replace HO_10 := Aside0.mk (Kd.R_below (zR HO_10) hb); replace HO_11 := Aside0.mk (Kd.R_below (zR HO_11) hb); replace HO_46 := Aside0.mk (Kd.R_below (zR HO_46) hb); replace HO650 := Aside0.mk (Kd.R_below (zR HO650) hb); replace BK623 := Aside0.mk (zKb BK623 hb); replace BK624 := Aside0.mk (zKb BK624 hb); replace HB := Aside0.mk (below_step (zB HB) hb); (try clear hb); (try clear hb2); (try clear hk); (try clear hi); have hcz53_0 := zc BK623 0; have hcz53_1 := zc BK623 1; have hfz53_0 := blk_frozen BK623.out 0; have hfz53_1 := blk_frozen BK623.out 1) | ((with_reducible refine gate_callee (f := 52) rfl ?_); refine zG (some 71) rfl Tryd.func52 #[.agg #[.int .i64 a0_0, .slice A0_1 l0_1.length c0_1], .slice Ao51 t648.length co51, .int .i64 a2] ?_; (with_reducible refine (enforce_duties.calls k2 a0_0 _ _ l0_1 _ _ t648 a2 t652 _ ?side1 ?side2 ?side3 ?side4 ?side5 A46.out).mono ?_); (case side1 => exact zCb HR0_1 HB); (case side2 => exact HC0_1.out); (case side3 => repeat (first | exact (Kd.R_reads' HO650.out).2.2 | (with_reducible refine Kd.C_alloc ?_ _) | (with_reducible refine Kd.C_drewN ?_ _) | (with_reducible refine Kd.C_drew ?_))); (case side4 => exact (Kd.R_reads' HO650.out).2.1); (case side5 => exact TabT.now HTab.out (zB HB)); rintro e w54 ⟨v653, rfl, ho0, hb⟩; refine ⟨_, rfl, ?_⟩; have HO654 := Aside0.mk (Kd.S_lower ho0 (below_size (zB HB))); replace HO_10 := Aside0.mk (Kd.R_below (zR HO_10) hb); replace HO_11 := Aside0.mk (Kd.R_below (zR HO_11) hb); replace HO_46 := Aside0.mk (Kd.R_below (zR HO_46) hb); replace HO650 := Aside0.mk (Kd.R_below (zR HO650) hb); replace BK623 := Aside0.mk (zKb BK623 hb); replace BK624 := Aside0.mk (zKb BK624 hb); replace HB := Aside0.mk (below_step (zB HB) hb); (try clear hb); (try clear hb2); (try clear hk); (try clear hi); (try clear ho0); obtain ⟨Ao55, co55, eo55⟩ := Kd.S_slice HO654.out; subst eo55)); go_roundg k2
                 case measure => have := HK1.out; have := HK2.out; omega
                 case rel => exact ⟨(t648), ((t652.length : Int)), (wrap64 (x42_1 + 1)), zv, zv, H', ⟨by have := HK1.out; have := HK2.out; omega⟩, ⟨by refine zkR ?_; exact Kd.R_mono HO_10.out (fun _ hk => hk.2)⟩, ⟨by refine zkR ?_; exact Kd.R_mono HO650.out (fun _ hk => hk.1.1.2)⟩, ⟨zK BK623⟩, ⟨zK BK624⟩, ⟨zB HB⟩⟩
               · rw [if_neg c47] at H; have c47b0 : decide (x12_1 < 0) = false := decide_eq_false c47; clear c47; replace H := Option.bind_eq_some_iff.mp H; obtain ⟨t655, A560, H⟩ := H; replace H : ((cmp_Compare_int.f (t648.length : Int) (x11_1.length : Int)).bind fun t656 => ((slices_Compare_int_int.f k2 t648 x11_1).bind fun t657 => ((cmp_Or_int.f k2 (([t655, t656, t657] : List Int))).bind fun t661 => (if t661 < 0 then (enforce_Loose.l0 k2 a2 t626 t634 t648 (t652.length : Int) ji20 (wrap64 (x42_1 + 1)) a0_0 l0_1) else (enforce_Loose.l0 k2 a2 t626 t634 x11_1 x12_1 ji20 (wrap64 (x42_1 + 1)) a0_0 l0_1))))) = some (r1, r2, r3, r4) := H; have A56 := Aside0.mk A560; clear A560; replace H := Option.bind_eq_some_iff.mp H; obtain ⟨t656, A570, H⟩ := H; replace H : ((slices_Compare_int_int.f k2 t648 x11_1).bind fun t657 => ((cmp_Or_int.f k2 (([t655, t656, t657] : List Int))).bind fun t661 => (if t661 < 0 then (enforce_Loose.l0 k2 a2 t626 t634 t648 (t652.length : Int) ji20 (wrap64 (x42_1 + 1)) a0_0 l0_1) else (enforce_Loose.l0 k2 a2 t626 t634 x11_1 x12_1 ji20 (wrap64 (x42_1 + 1)) a0_0 l0_1)))) = some (r1, r2, r3, r4) := H; have A57 := Aside0.mk A570; clear A570; replace H := Option.bind_eq_some_iff.mp H; obtain ⟨t657, A580, H⟩ := H; replace H : ((cmp_Or_int.f k2 (([t655, t656, t657] : List Int))).bind fun t661 => (if t661 < 0 then (enforce_Loose.l0 k2 a2 t626 t634 t648 (t652.length : Int) ji20 (wrap64 (x42_1 + 1)) a0_0 l0_1) else (enforce_Loose.l0 k2 a2 t626 t634 x11_1 x12_1 ji20 (wrap64 (x42_1 + 1)) a0_0 l0_1))) = some (r1, r2, r3, r4) := H; have A58 := Aside0.mk A580; clear A580; obtain ⟨y658, hy658⟩ : ∃ y_ : List Int, y_ = (([t655, t656, t657] : List Int)) := ⟨_, rfl⟩; replace H : ((cmp_Or_int.f k2 y658).bind fun t661 => (if t661 < 0 then (enforce_Loose.l0 k2 a2 t626 t634 t648 (t652.length : Int) ji20 (wrap64 (x42_1 + 1)) a0_0 l0_1) else (enforce_Loose.l0 k2 a2 t626 t634 x11_1 x12_1 ji20 (wrap64 (x42_1 + 1)) a0_0 l0_1))) = some (r1, r2, r3, r4) := by first | (rw [hy658]; with_reducible exact H) | (have H2_ := (Option.bind_some _ _).symm.trans H; rw [hy658]; with_reducible exact H2_) | (have H2_ := (Option.bind_some _ _).symm.trans H; with_reducible exact H2_) | with_reducible exact H | (rw [hy658]; exact H) | exact H
                 have Ny658 := Aside0.mk hy658; clear hy658; replace H := Option.bind_eq_some_iff.mp H; obtain ⟨t661, A590, H⟩ := H; replace H : (if t661 < 0 then (enforce_Loose.l0 k2 a2 t626 t634 t648 (t652.length : Int) ji20 (wrap64 (x42_1 + 1)) a0_0 l0_1) else (enforce_Loose.l0 k2 a2 t626 t634 x11_1 x12_1 ji20 (wrap64 (x42_1 + 1)) a0_0 l0_1)) = some (r1, r2, r3, r4) := H; have A59 := Aside0.mk A590; clear A590; by_cases c60 : t661 < 0
                 · rw [if_pos c60] at H; have c60b0 : decide (t661 < 0) = true := decide_eq_true c60; clear c60; have H' := Aside0.mk H; clear H; go_wp2_with (first | ((with_reducible refine gate_callee (f := 50) rfl ?_); refine zG (some 63) rfl Tryd.func50 #[.int .u64 x14_2] ?_; (with_reducible refine (network_Set_List.calls k2 x14_2 t648 _ ?side1 A38.out).mono ?_); (case side1 => exact TabT.now HTab.out (zB HB)); rintro e w61 ⟨v649, rfl, ho0, hb⟩; refine ⟨_, rfl, ?_⟩; have HO650 := Aside0.mk (Kd.R_lower (Kd.R_new' (Kd.R_new' (Kd.R_new' ho0 (Kd.R_lt (zR HO_10))) (Kd.R_lt (zR HO_11))) (Kd.R_lt (zR HO_46))) (below_size (zB HB))); replace HO_10 := Aside0.mk (Kd.R_elder' (zR HO_10) (Kd.R_base ho0) hb); replace HO_11 := Aside0.mk (Kd.R_elder' (zR HO_11) (Kd.R_base ho0) hb); replace HO_46 := Aside0.mk (Kd.R_elder' (zR HO_46) (Kd.R_base ho0) hb); replace BK623 := Aside0.mk (zKb BK623 hb); replace BK624 := Aside0.mk (zKb BK624 hb); replace HB := Aside0.mk (below_step (zB HB) hb); (try clear hb); (try clear hb2); (try clear hk); (try clear hi); (try clear ho0); have hnb62 := NB623_624.out; have hnc62 := NB624_623.out; have hcz63_0 := zc BK623 0; have hcz63_1 := zc BK623 1; have hfz63_0 := blk_frozen BK623.out 0; have hfz63_1 := blk_frozen BK623.out 1; obtain ⟨Ao64, co64, eo64⟩ := Kd.R_slice HO650.out; subst eo64) | ((with_reducible refine gate_callee (f := 46) rfl ?_); refine zG (some 67) rfl Tryd.func46 #[.agg #[.int .i64 a0_0, .slice A0_1 l0_1.length c0_1], .slice Ao64 t648.length co64, .int .i64 a2] ?_; (with_reducible refine (enforce_hopeless.calls a0_0 _ _ l0_1 _ _ t648 a2 false _ ?side1 ?side2 ?side3 ?side4 A39.out).mono ?_); (case side1 => exact zCb HR0_1 HB); (case side2 => exact HC0_1.out); (case side3 => repeat (first | exact (Kd.R_reads' HO650.out).2.2 | (with_reducible refine Kd.C_alloc ?_ _) | (with_reducible refine Kd.C_drewN ?_ _) | (with_reducible refine Kd.C_drew ?_))); (case side4 => exact (Kd.R_reads' HO650.out).2.1); rintro e w65 ⟨rfl, hb⟩; refine ⟨_, rfl, ?_⟩; replace HO_10 := Aside0.mk (Kd.R_below (zR HO_10) hb); replace HO_11 := Aside0.mk (Kd.R_below (zR HO_11) hb); replace HO_46 := Aside0.mk (Kd.R_below (zR HO_46) hb); replace HO650 := Aside0.mk (Kd.R_below (zR HO650) hb); replace BK623 := Aside0.mk (zKb BK623 hb); replace BK624 := Aside0.mk (zKb BK624 hb); replace HB := Aside0.mk (below_step (zB HB) hb); (try clear hb); (try clear hb2); (try clear hk); (try clear hi); have hcz66_0 := zc BK623 0; have hcz66_1 := zc BK623 1; have hfz66_0 := blk_frozen BK623.out 0; have hfz66_1 := blk_frozen BK623.out 1) | ((with_reducible refine gate_callee (f := 52) rfl ?_); refine zG (some 71) rfl Tryd.func52 #[.agg #[.int .i64 a0_0, .slice A0_1 l0_1.length c0_1], .slice Ao64 t648.length co64, .int .i64 a2] ?_; (with_reducible refine (enforce_duties.calls k2 a0_0 _ _ l0_1 _ _ t648 a2 t652 _ ?side1 ?side2 ?side3 ?side4 ?side5 A46.out).mono ?_); (case side1 => exact zCb HR0_1 HB); (case side2 => exact HC0_1.out); (case side3 => repeat (first | exact (Kd.R_reads' HO650.out).2.2 | (with_reducible refine Kd.C_alloc ?_ _) | (with_reducible refine Kd.C_drewN ?_ _) | (with_reducible refine Kd.C_drew ?_))); (case side4 => exact (Kd.R_reads' HO650.out).2.1); (case side5 => exact TabT.now HTab.out (zB HB)); rintro e w67 ⟨v653, rfl, ho0, hb⟩; refine ⟨_, rfl, ?_⟩; have HO654 := Aside0.mk (Kd.S_lower ho0 (below_size (zB HB))); replace HO_10 := Aside0.mk (Kd.R_below (zR HO_10) hb); replace HO_11 := Aside0.mk (Kd.R_below (zR HO_11) hb); replace HO_46 := Aside0.mk (Kd.R_below (zR HO_46) hb); replace HO650 := Aside0.mk (Kd.R_below (zR HO650) hb); replace BK623 := Aside0.mk (zKb BK623 hb); replace BK624 := Aside0.mk (zKb BK624 hb); replace HB := Aside0.mk (below_step (zB HB) hb); (try clear hb); (try clear hb2); (try clear hk); (try clear hi); (try clear ho0); obtain ⟨Ao68, co68, eo68⟩ := Kd.S_slice HO654.out; subst eo68) | (go_at_call 54; (with_reducible refine (cmp_Compare_int.calls (t652.length : Int) x12_1 t655 _ A56.out).mono ?_); rintro e w' ⟨rfl, ⟨nd, rfl⟩⟩; obtain ⟨Ao69, co69, eo69⟩ := Kd.R_slice HO_11.out; subst eo69) | (go_at_call 54; (with_reducible refine (cmp_Compare_int.calls (t648.length : Int) (x11_1.length : Int) t656 _ A57.out).mono ?_); rintro e w' ⟨rfl, ⟨nd, rfl⟩⟩) | (go_at_call 55; (with_reducible refine (slices_Compare_int_int.calls k2 _ _ t648 _ _ x11_1 t657 _ ?side1 ?side2 ?side3 ?side4 A58.out).mono ?_); (case side1 => repeat (first | exact (Kd.R_reads' HO650.out).2.2 | (with_reducible refine Kd.C_alloc ?_ _) | (with_reducible refine Kd.C_drewN ?_ _) | (with_reducible refine Kd.C_drew ?_))); (case side2 => exact (Kd.R_reads' HO650.out).2.1); (case side3 => repeat (first | exact (Kd.R_reads' HO_11.out).2.2 | (with_reducible refine Kd.C_alloc ?_ _) | (with_reducible refine Kd.C_drewN ?_ _) | (with_reducible refine Kd.C_drew ?_))); (case side4 => exact (Kd.R_reads' HO_11.out).2.1); rintro e w' ⟨rfl, ⟨nd, rfl⟩⟩) | ((with_reducible refine gate_dst (N := 87) rfl ?_); (try (refine gate_guard (by rfl) ?_; dsimp only)); refine Kd.R_lit (Kd.int .i64) _ 3 ?hg (N := 87) ?hd (xs := ([t655, t656, t657] : List Int)) (inner := [.int .i64 t655, .int .i64 t656, .int .i64 t657]) (ok := fun _ => True) (okp := fun _ => True) ?hr ?hp (fun _ hk => hk) trivial (Below.refl _ _) (Nat.le_refl _) (by simp) ?_; (case hd => rfl); (case hg => rfl); (case hr => first | (go_simp; done) | (go_simp; rfl)); (case hp => exact (Reps.one (show Kd.M (Kd.int .i64) _ _ _ t655 [.int .i64 t655] from rfl) (Reps.one (show Kd.M (Kd.int .i64) _ _ _ t656 [.int .i64 t656] from rfl) (Reps.one (show Kd.M (Kd.int .i64) _ _ _ t657 [.int .i64 t657] from rfl) (Reps.none _ _))))); intro v659 w70 ho71 hb hg_ hnew_; clear hg_ hnew_; (first | rw [← Ny658.out] at ho71 | (simp only [Int.reduceToNat] at ho71; rw [← Ny658.out] at ho71)); have HO660 := Aside0.mk (Kd.R_lower (Kd.R_new' (Kd.R_new' (Kd.R_new' (Kd.R_new' ho71 (Kd.R_lt (zR HO_10))) (Kd.R_lt (zR HO_11))) (Kd.R_lt (zR HO_46))) (Kd.R_lt (zR HO650))) (below_size (zB HB))); replace HO_10 := Aside0.mk (Kd.R_elder' (zR HO_10) (Kd.R_base ho71) hb); replace HO_11 := Aside0.mk (Kd.R_elder' (zR HO_11) (Kd.R_base ho71) hb); replace HO_46 := Aside0.mk (Kd.R_elder' (zR HO_46) (Kd.R_base ho71) hb); replace HO650 := Aside0.mk (Kd.R_elder' (zR HO650) (Kd.R_base ho71) hb); replace HO654 := Aside0.mk (Kd.S_below (zS HO654) hb); replace BK623 := Aside0.mk (zKb BK623 hb); replace BK624 := Aside0.mk (zKb BK624 hb); replace HB := Aside0.mk (below_step (zB HB) hb); clear hb ho71; obtain ⟨Ao72, co72, eo72⟩ := Kd.R_slice HO660.out; subst eo72) | (go_at_call 53; (with_reducible refine (cmp_Or_int.calls k2 _ _ y658 t661 _ ?side1 ?side2 A59.out).mono ?_); (case side1 => repeat (first | exact (Kd.R_reads' HO660.out).2.2 | (with_reducible refine Kd.C_alloc ?_ _) | (with_reducible refine Kd.C_drewN ?_ _) | (with_reducible refine Kd.C_drew ?_))); (case side2 => exact (Kd.R_reads' HO660.out).2.1); rintro e w' ⟨rfl, ⟨nd, rfl⟩⟩)); go_roundg k2
                   case measure => have := HK1.out; have := HK2.out; omega
                   case rel => exact ⟨(t648), ((t652.length : Int)), (wrap64 (x42_1 + 1)), zv, zv, H', ⟨by have := HK1.out; have := HK2.out; omega⟩, ⟨by refine zkR ?_; exact Kd.R_mono HO_10.out (fun _ hk => hk.1.2)⟩, ⟨by refine zkR ?_; exact Kd.R_mono HO650.out (fun _ hk => hk.1.1.1.2)⟩, ⟨zK BK623⟩, ⟨zK BK624⟩, ⟨zB HB⟩⟩
                 · rw [if_neg c60] at H; have c60b0 : decide (t661 < 0) = false := decide_eq_false c60; clear c60; have H' := Aside0.mk H; clear H; go_wp2_with (first | ((with_reducible refine gate_callee (f := 50) rfl ?_); refine zG (some 63) rfl Tryd.func50 #[.int .u64 x14_2] ?_; (with_reducible refine (network_Set_List.calls k2 x14_2 t648 _ ?side1 A38.out).mono ?_); (case side1 => exact TabT.now HTab.out (zB HB)); rintro e w73 ⟨v649, rfl, ho0, hb⟩; refine ⟨_, rfl, ?_⟩; have HO650 := Aside0.mk (Kd.R_lower (Kd.R_new' (Kd.R_new' (Kd.R_new' ho0 (Kd.R_lt (zR HO_10))) (Kd.R_lt (zR HO_11))) (Kd.R_lt (zR HO_46))) (below_size (zB HB))); replace HO_10 := Aside0.mk (Kd.R_elder' (zR HO_10) (Kd.R_base ho0) hb); replace HO_11 := Aside0.mk (Kd.R_elder' (zR HO_11) (Kd.R_base ho0) hb); replace HO_46 := Aside0.mk (Kd.R_elder' (zR HO_46) (Kd.R_base ho0) hb); replace BK623 := Aside0.mk (zKb BK623 hb); replace BK624 := Aside0.mk (zKb BK624 hb); replace HB := Aside0.mk (below_step (zB HB) hb); (try clear hb); (try clear hb2); (try clear hk); (try clear hi); (try clear ho0); have hnb74 := NB623_624.out; have hnc74 := NB624_623.out; have hcz75_0 := zc BK623 0; have hcz75_1 := zc BK623 1; have hfz75_0 := blk_frozen BK623.out 0; have hfz75_1 := blk_frozen BK623.out 1; obtain ⟨Ao76, co76, eo76⟩ := Kd.R_slice HO650.out; subst eo76) | ((with_reducible refine gate_callee (f := 46) rfl ?_); refine zG (some 67) rfl Tryd.func46 #[.agg #[.int .i64 a0_0, .slice A0_1 l0_1.length c0_1], .slice Ao76 t648.length co76, .int .i64 a2] ?_; (with_reducible refine (enforce_hopeless.calls a0_0 _ _ l0_1 _ _ t648 a2 false _ ?side1 ?side2 ?side3 ?side4 A39.out).mono ?_); (case side1 => exact zCb HR0_1 HB); (case side2 => exact HC0_1.out); (case side3 => repeat (first | exact (Kd.R_reads' HO650.out).2.2 | (with_reducible refine Kd.C_alloc ?_ _) | (with_reducible refine Kd.C_drewN ?_ _) | (with_reducible refine Kd.C_drew ?_))); (case side4 => exact (Kd.R_reads' HO650.out).2.1); rintro e w77 ⟨rfl, hb⟩; refine ⟨_, rfl, ?_⟩; replace HO_10 := Aside0.mk (Kd.R_below (zR HO_10) hb); replace HO_11 := Aside0.mk (Kd.R_below (zR HO_11) hb); replace HO_46 := Aside0.mk (Kd.R_below (zR HO_46) hb); replace HO650 := Aside0.mk (Kd.R_below (zR HO650) hb); replace BK623 := Aside0.mk (zKb BK623 hb); replace BK624 := Aside0.mk (zKb BK624 hb); replace HB := Aside0.mk (below_step (zB HB) hb); (try clear hb); (try clear hb2); (try clear hk); (try clear hi); have hcz78_0 := zc BK623 0; have hcz78_1 := zc BK623 1; have hfz78_0 := blk_frozen BK623.out 0; have hfz78_1 := blk_frozen BK623.out 1) | ((with_reducible refine gate_callee (f := 52) rfl ?_); refine zG (some 71) rfl Tryd.func52 #[.agg #[.int .i64 a0_0, .slice A0_1 l0_1.length c0_1], .slice Ao76 t648.length co76, .int .i64 a2] ?_; (with_reducible refine (enforce_duties.calls k2 a0_0 _ _ l0_1 _ _ t648 a2 t652 _ ?side1 ?side2 ?side3 ?side4 ?side5 A46.out).mono ?_); (case side1 => exact zCb HR0_1 HB); (case side2 => exact HC0_1.out); (case side3 => repeat (first | exact (Kd.R_reads' HO650.out).2.2 | (with_reducible refine Kd.C_alloc ?_ _) | (with_reducible refine Kd.C_drewN ?_ _) | (with_reducible refine Kd.C_drew ?_))); (case side4 => exact (Kd.R_reads' HO650.out).2.1); (case side5 => exact TabT.now HTab.out (zB HB)); rintro e w79 ⟨v653, rfl, ho0, hb⟩; refine ⟨_, rfl, ?_⟩; have HO654 := Aside0.mk (Kd.S_lower ho0 (below_size (zB HB))); replace HO_10 := Aside0.mk (Kd.R_below (zR HO_10) hb); replace HO_11 := Aside0.mk (Kd.R_below (zR HO_11) hb); replace HO_46 := Aside0.mk (Kd.R_below (zR HO_46) hb); replace HO650 := Aside0.mk (Kd.R_below (zR HO650) hb); replace BK623 := Aside0.mk (zKb BK623 hb); replace BK624 := Aside0.mk (zKb BK624 hb); replace HB := Aside0.mk (below_step (zB HB) hb); (try clear hb); (try clear hb2); (try clear hk); (try clear hi); (try clear ho0); obtain ⟨Ao80, co80, eo80⟩ := Kd.S_slice HO654.out; subst eo80) | (go_at_call 54; (with_reducible refine (cmp_Compare_int.calls (t652.length : Int) x12_1 t655 _ A56.out).mono ?_); rintro e w' ⟨rfl, ⟨nd, rfl⟩⟩; obtain ⟨Ao81, co81, eo81⟩ := Kd.R_slice HO_11.out; subst eo81) | (go_at_call 54; (with_reducible refine (cmp_Compare_int.calls (t648.length : Int) (x11_1.length : Int) t656 _ A57.out).mono ?_); rintro e w' ⟨rfl, ⟨nd, rfl⟩⟩) | (go_at_call 55; (with_reducible refine (slices_Compare_int_int.calls k2 _ _ t648 _ _ x11_1 t657 _ ?side1 ?side2 ?side3 ?side4 A58.out).mono ?_); (case side1 => repeat (first | exact (Kd.R_reads' HO650.out).2.2 | (with_reducible refine Kd.C_alloc ?_ _) | (with_reducible refine Kd.C_drewN ?_ _) | (with_reducible refine Kd.C_drew ?_))); (case side2 => exact (Kd.R_reads' HO650.out).2.1); (case side3 => repeat (first | exact (Kd.R_reads' HO_11.out).2.2 | (with_reducible refine Kd.C_alloc ?_ _) | (with_reducible refine Kd.C_drewN ?_ _) | (with_reducible refine Kd.C_drew ?_))); (case side4 => exact (Kd.R_reads' HO_11.out).2.1); rintro e w' ⟨rfl, ⟨nd, rfl⟩⟩) | ((with_reducible refine gate_dst (N := 87) rfl ?_); (try (refine gate_guard (by rfl) ?_; dsimp only)); refine Kd.R_lit (Kd.int .i64) _ 3 ?hg (N := 87) ?hd (xs := ([t655, t656, t657] : List Int)) (inner := [.int .i64 t655, .int .i64 t656, .int .i64 t657]) (ok := fun _ => True) (okp := fun _ => True) ?hr ?hp (fun _ hk => hk) trivial (Below.refl _ _) (Nat.le_refl _) (by simp) ?_; (case hd => rfl); (case hg => rfl); (case hr => first | (go_simp; done) | (go_simp; rfl)); (case hp => exact (Reps.one (show Kd.M (Kd.int .i64) _ _ _ t655 [.int .i64 t655] from rfl) (Reps.one (show Kd.M (Kd.int .i64) _ _ _ t656 [.int .i64 t656] from rfl) (Reps.one (show Kd.M (Kd.int .i64) _ _ _ t657 [.int .i64 t657] from rfl) (Reps.none _ _))))); intro v659 w82 ho83 hb hg_ hnew_; clear hg_ hnew_; (first | rw [← Ny658.out] at ho83 | (simp only [Int.reduceToNat] at ho83; rw [← Ny658.out] at ho83)); have HO660 := Aside0.mk (Kd.R_lower (Kd.R_new' (Kd.R_new' (Kd.R_new' (Kd.R_new' ho83 (Kd.R_lt (zR HO_10))) (Kd.R_lt (zR HO_11))) (Kd.R_lt (zR HO_46))) (Kd.R_lt (zR HO650))) (below_size (zB HB))); replace HO_10 := Aside0.mk (Kd.R_elder' (zR HO_10) (Kd.R_base ho83) hb); replace HO_11 := Aside0.mk (Kd.R_elder' (zR HO_11) (Kd.R_base ho83) hb); replace HO_46 := Aside0.mk (Kd.R_elder' (zR HO_46) (Kd.R_base ho83) hb); replace HO650 := Aside0.mk (Kd.R_elder' (zR HO650) (Kd.R_base ho83) hb); replace HO654 := Aside0.mk (Kd.S_below (zS HO654) hb); replace BK623 := Aside0.mk (zKb BK623 hb); replace BK624 := Aside0.mk (zKb BK624 hb); replace HB := Aside0.mk (below_step (zB HB) hb); clear hb ho83; obtain ⟨Ao84, co84, eo84⟩ := Kd.R_slice HO660.out; subst eo84) | (go_at_call 53; (with_reducible refine (cmp_Or_int.calls k2 _ _ y658 t661 _ ?side1 ?side2 A59.out).mono ?_); (case side1 => repeat (first | exact (Kd.R_reads' HO660.out).2.2 | (with_reducible refine Kd.C_alloc ?_ _) | (with_reducible refine Kd.C_drewN ?_ _) | (with_reducible refine Kd.C_drew ?_))); (case side2 => exact (Kd.R_reads' HO660.out).2.1); rintro e w' ⟨rfl, ⟨nd, rfl⟩⟩)); go_roundg k2
                   case measure => have := HK1.out; have := HK2.out; omega
                   case rel => exact ⟨(x11_1), (x12_1), (wrap64 (x42_1 + 1)), zv, zv, H', ⟨by have := HK1.out; have := HK2.out; omega⟩, ⟨by refine zkR ?_; exact Kd.R_mono HO_10.out (fun _ hk => hk.1.1)⟩, ⟨by refine zkR ?_; exact Kd.R_mono HO_11.out (fun _ hk => hk.1.1.1)⟩, ⟨zK BK623⟩, ⟨zK BK624⟩, ⟨zB HB⟩⟩
       · rw [if_neg c30] at H; have c30b0 : decide (x42_1 < ji20) = false := decide_eq_false c30; clear c30; replace H := Option.bind_eq_some_iff.mp H; obtain ⟨⟨t637, t640, t643⟩, A850, H⟩ := H; replace H : (some (t637, t640, t643, 0)) = some (r1, r2, r3, r4) := H; have A85 := Aside0.mk A850; clear A850; simp only [Option.some.injEq, Prod.mk.injEq] at H; obtain ⟨rfl, rfl, rfl, rfl⟩ := H; have hnb86 := NB623_624.out; have hnc86 := NB624_623.out; have hcz87_0 := zc BK623 0; have hcz87_1 := zc BK623 1; have hfz87_0 := blk_frozen BK623.out 0; have hfz87_1 := blk_frozen BK623.out 1; obtain ⟨Ao88, co88, eo88⟩ := Kd.R_slice HO_11.out; subst eo88; go_wp2_with (first | ((with_reducible refine gate_callee (f := 47) rfl ?_); refine zG (some 97) rfl Tryd.func47 #[.agg #[.int .i64 a0_0, .slice A0_1 l0_1.length c0_1], .slice Ao88 x11_1.length co88, .int .i64 a2] ?_; (with_reducible refine (enforce_strict.calls k1 a0_0 _ _ l0_1 _ _ x11_1 a2 t637 t640 t643 _ ?side1 ?side2 ?side3 ?side4 ?side5 A85.out).mono ?_); (case side1 => exact zCb HR0_1 HB); (case side2 => exact HC0_1.out); (case side3 => repeat (first | exact (Kd.R_reads' HO_11.out).2.2 | (with_reducible refine Kd.C_alloc ?_ _) | (with_reducible refine Kd.C_drewN ?_ _) | (with_reducible refine Kd.C_drew ?_))); (case side4 => exact (Kd.R_reads' HO_11.out).2.1); (case side5 => exact TabT.now HTab.out (zB HB)); rintro e w89 ⟨v638, v641, v644, rfl, ho0, ho1, ho2, hb⟩; refine ⟨_, rfl, ?_⟩; have HO639 := Aside0.mk (Kd.R_lower (Kd.R_new' (Kd.R_new' ho0 (Kd.R_lt (zR HO_10))) (Kd.R_lt (zR HO_11))) (below_size (zB HB))); have HO642 := Aside0.mk (Kd.R_lower ho1 (below_size (zB HB))); have HO645 := Aside0.mk (Kd.S_lower ho2 (below_size (zB HB))); replace HO_10 := Aside0.mk (Kd.R_elder' (zR HO_10) (Kd.R_base ho0) hb); replace HO_11 := Aside0.mk (Kd.R_elder' (zR HO_11) (Kd.R_base ho0) hb); replace BK623 := Aside0.mk (zKb BK623 hb); replace BK624 := Aside0.mk (zKb BK624 hb); replace HB := Aside0.mk (below_step (zB HB) hb); (try clear hb); (try clear hb2); (try clear hk); (try clear hi); (try clear ho0); (try clear ho1); (try clear ho2); obtain ⟨Ao90, co90, eo90⟩ := Kd.R_slice HO639.out; subst eo90; have hcz91_0 := zc BK624 0; have hcz91_1 := zc BK624 1; have hcz91_2 := zc BK624 2; have hfz91_0 := blk_frozen BK624.out 0; have hfz91_1 := blk_frozen BK624.out 1; have hfz91_2 := blk_frozen BK624.out 2; obtain ⟨Ao92, co92, eo92⟩ := Kd.R_slice HO642.out; subst eo92; obtain ⟨Ao93, co93, eo93⟩ := Kd.S_slice HO645.out; subst eo93)); refine bodyPost_ret (results_ct rfl _ _ gb624 28 #[.slice Ao90 t637.length co90, .slice Ao92 t640.length co92, .slice Ao93 t643.length co93] (0, 0) _ rfl (by refine zk ?_; refine blk_put (cs := #[.slice Ao90 t637.length co90, .slice Ao92 t640.length co92, .slice none 0 0]) ?_ 2 _ rfl; refine zk ?_; refine blk_put (cs := #[.slice Ao90 t637.length co90, .slice none 0 0, .slice none 0 0]) ?_ 1 _ rfl; refine zk ?_; refine blk_put (cs := #[.slice none 0 0, .slice none 0 0, .slice none 0 0]) ?_ 0 _ rfl; refine zk ?_; exact BK624.out) Tryd.underlying28 rfl (by kernel_rfl)) rfl ?_; exact ⟨_, _, _, by first | rfl | (simp [errW_none, errW_some] <;> rfl) | (simp only [← hji20]; first | rfl | (simp [errW_none, errW_some] <;> rfl)) | (simp [*, errW_none, errW_some] <;> rfl), by refine zkR ?_; exact Kd.R_mono (Kd.R_far (p := ⟨gb624, 2, none⟩) (Kd.R_far (p := ⟨gb624, 1, none⟩) (Kd.R_far (p := ⟨gb624, 0, none⟩) (Kd.R_types HO639.out BK624.out (by decide)) (fun _ hk => hk.2) (.slice Ao90 t637.length co90)) (fun _ hk => hk.2) (.slice Ao92 t640.length co92)) (fun _ hk => hk.2) (.slice Ao93 t643.length co93)) (fun _ hk => trivial), by refine zkR ?_; exact Kd.R_mono (Kd.R_far (p := ⟨gb624, 2, none⟩) (Kd.R_far (p := ⟨gb624, 1, none⟩) (Kd.R_far (p := ⟨gb624, 0, none⟩) (Kd.R_types HO642.out BK624.out (by decide)) (fun _ hk => hk.2) (.slice Ao90 t637.length co90)) (fun _ hk => hk.2) (.slice Ao92 t640.length co92)) (fun _ hk => hk.2) (.slice Ao93 t643.length co93)) (fun _ hk => trivial), by refine zkS ?_; exact Kd.S_mono (Kd.S_far (p := ⟨gb624, 2, none⟩) (Kd.S_far (p := ⟨gb624, 1, none⟩) (Kd.S_far (p := ⟨gb624, 0, none⟩) (Kd.S_types HO645.out BK624.out (by decide)) (fun _ hk => hk.2) (.slice Ao90 t637.length co90)) (fun _ hk => hk.2) (.slice Ao92 t640.length co92)) (fun _ hk => hk.2) (.slice Ao93 t643.length co93)) (fun _ hk => hk.1), zB HB⟩
 · rw [if_neg c5] at H; have c5b0 : (t625 == 0) = false := beq_eq_false_iff_ne.mpr c5; have c5b1 : (t625 != 0) = true := bne_iff_ne.mpr c5; simp only [Option.some.injEq, Prod.mk.injEq] at H; obtain ⟨rfl, rfl, rfl, rfl⟩ := H; go_enter Tryd.func25, Tryd.ntmps25; go_wp2_with (first | ((with_reducible refine gate_dst (N := 3) rfl ?_); (try (refine gate_guard (by rfl) ?_; dsimp only)); refine zX (N := 3) (cs := #[.int .i64 a0_0, .slice A0_1 l0_1.length c0_1]) (t := 24) ?_; intro gb623 hg w94 hbox hb; have BK623 := Aside0.mk (hbox); have GW623 := Aside0.mk (zW hg HB); have GE623 := Aside0.mk (zW hg HB); replace HB := Aside0.mk (below_step (zB HB) hb); clear hb hbox hg) | ((with_reducible refine gate_dst (N := 6) rfl ?_); (try (refine gate_guard (by rfl) ?_; dsimp only)); refine zX (N := 6) (cs := #[.slice none 0 0, .slice none 0 0, .slice none 0 0]) (t := 28) ?_; intro gb624 hg w95 hbox hb; have BK624 := Aside0.mk (hbox); have GW624 := Aside0.mk (zW hg HB); have GE624 := Aside0.mk (zW hg HB); have NB623_624 := Aside0.mk (zNl hg BK623); have NB624_623 := Aside0.mk (zNr hg BK623); replace BK623 := Aside0.mk (zKb BK623 hb); replace HB := Aside0.mk (below_step (zB HB) hb); clear hb hbox hg; have hnb96 := NB623_624.out; have hnc96 := NB624_623.out; have hcz97_0 := zc BK623 0; have hcz97_1 := zc BK623 1; have hfz97_0 := blk_frozen BK623.out 0; have hfz97_1 := blk_frozen BK623.out 1) | ((with_reducible refine gate_callee (f := 37) rfl ?_); refine zG (some 22) rfl Tryd.func37 #[.agg #[.int .i64 a0_0, .slice A0_1 l0_1.length c0_1], .slice A1 l1.length c1, .int .i64 a2] ?_; (with_reducible refine (enforce_arguments.calls k a0_0 _ _ l0_1 _ _ l1 a2 t625 _ ?side1 ?side2 ?side3 ?side4 A4.out).mono ?_); (case side1 => exact zCb HR0_1 HB); (case side2 => exact HC0_1.out); (case side3 => exact zCb HR1 HB); (case side4 => exact HC1.out); rintro e w98 ⟨rfl, hb⟩; refine ⟨_, rfl, ?_⟩; replace BK623 := Aside0.mk (zKb BK623 hb); replace BK624 := Aside0.mk (zKb BK624 hb); replace HB := Aside0.mk (below_step (zB HB) hb); (try clear hb); (try clear hb2); (try clear hk); (try clear hi); have hcz99_0 := zc BK624 0; have hcz99_1 := zc BK624 1; have hcz99_2 := zc BK624 2; have hfz99_0 := blk_frozen BK624.out 0; have hfz99_1 := blk_frozen BK624.out 1; have hfz99_2 := blk_frozen BK624.out 2)); refine bodyPost_ret (results_ct rfl _ _ gb624 28 #[.slice none 0 0, .slice none 0 0, .slice none 0 0] (0, 0) _ rfl (by refine zk ?_; refine blk_put (cs := #[.slice none 0 0, .slice none 0 0, .slice none 0 0]) ?_ 2 _ rfl; refine zk ?_; refine blk_put (cs := #[.slice none 0 0, .slice none 0 0, .slice none 0 0]) ?_ 1 _ rfl; refine zk ?_; refine blk_put (cs := #[.slice none 0 0, .slice none 0 0, .slice none 0 0]) ?_ 0 _ rfl; refine zk ?_; exact BK624.out) Tryd.underlying28 rfl (by kernel_rfl)) rfl ?_; exact ⟨_, _, _, by first | rfl | (simp [errW_none, errW_some] <;> rfl) | (simp [*, errW_none, errW_some] <;> rfl), by first | exact Kd.R_nil _ _ _ _ _ | exact Kd.N_nil _ _ _ _ _ | exact Kd.V_nil _ _ _ _ _ | exact Kd.Q_nil _ _ _ _ _ | exact Kd.S_nil _ _ _ _ _ | exact Kd.R_nil _ _ _ 0 _, by first | exact Kd.R_nil _ _ _ _ _ | exact Kd.N_nil _ _ _ _ _ | exact Kd.V_nil _ _ _ _ _ | exact Kd.Q_nil _ _ _ _ _ | exact Kd.S_nil _ _ _ _ _ | exact Kd.R_nil _ _ _ 0 _, by first | exact Kd.S_nil _ _ _ _ _ | exact Kd.N_nil _ _ _ _ _ | exact Kd.V_nil _ _ _ _ _ | exact Kd.Q_nil _ _ _ _ _ | exact Kd.R_nil _ _ _ _ _ | exact Kd.R_nil _ _ _ 0 _, zB HB⟩
end Go.Proofs.YtjmdlmogdbhdhaaDoor.P
/- Plain facts: Loose, as a fold over all sets of the other nodes. -/
namespace Go.Proofs.YtjmdlmogdbhdhaaDoor.P
open Go.RowKit Go.Proofs.YtjmdlmogdbhdhaaDoorW.PrintWords Go.Proofs.YtjmdlmogdbhdhaaDoorW.PrintLast Go.Proofs.YtjmdlmogdbhdhaaDoorW.PrintMore
/-- The first that is not 0. -/
def orL : List Int → Int
  | [] => 0
  | x :: r => if x = 0 then orL r else x
theorem orl_l0 (l : List Int) (hl : l.length ≤ 1000000) : ∀ (n i : Nat), n + i = l.length → Ev (fun k => cmp_Or_int.l0 k 0 l (l.length : Int) (i : Int)) (orL (l.drop i))
  | 0, i, hi => by
    refine Ev.succ ?_
    simp only [cmp_Or_int.l0]
    refine Ev.neg (by omega) ?_
    rw [List.drop_eq_nil_of_le (by omega)]
    exact Ev.const _
  | n + 1, i, hi => by
    have hlt : i < l.length := by omega
    have ih := orl_l0 l hl n (i + 1) (by omega)
    refine Ev.succ ?_
    simp only [cmp_Or_int.l0, rd_get l i hlt, up1 i (by omega)]
    refine Ev.pos (by omega) (Ev.pos (by omega) (Ev.pos (by omega) ?_))
    rw [List.drop_eq_getElem_cons hlt, orL]
    by_cases h : l[i] = 0
    · rw [if_pos h]
      exact Ev.pos h ih
    · rw [if_neg h]
      exact Ev.neg h (Ev.const _)
theorem orl_ev (l : List Int) (hl : l.length ≤ 1000000) : Ev (fun k => cmp_Or_int.f k l) (orL l) := by
  have := orl_l0 l hl l.length 0 (by omega)
  simp only [cmp_Or_int.f]
  exact this
/-- Lists compared by their first difference. -/
def cmpL : List Int → List Int → Int
  | [], [] => 0
  | [], _ :: _ => -1
  | _ :: _, [] => 1
  | x :: r, y :: t => if cmpV x y = 0 then cmpL r t else cmpV x y
theorem cmpl_l0 (a b : List Int) (ha : a.length ≤ 1000000) : ∀ (n i : Nat), n + i = a.length → i ≤ b.length → Ev (fun k => slices_Compare_int_int.l0 k a b a (a.length : Int) (i : Int)) (cmpL (a.drop i) (b.drop i))
  | 0, i, hi, hb => by
    refine Ev.succ ?_
    simp only [slices_Compare_int_int.l0]
    refine Ev.neg (by omega) ?_
    rw [List.drop_eq_nil_of_le (by omega)]
    by_cases h : i = b.length
    · rw [List.drop_eq_nil_of_le (by omega)]
      exact Ev.neg (by omega) (Ev.const _)
    · rw [List.drop_eq_getElem_cons (by omega : i < b.length)]
      exact Ev.pos (by omega) (Ev.const _)
  | n + 1, i, hi, hb => by
    have hlt : i < a.length := by omega
    have ih := cmpl_l0 a b ha n (i + 1) (by omega)
    refine Ev.succ ?_
    simp only [slices_Compare_int_int.l0, rd_get a i hlt, up1 i (by omega)]
    refine Ev.pos (by omega) (Ev.pos (by omega) (Ev.pos (by omega) ?_))
    rw [List.drop_eq_getElem_cons hlt]
    by_cases h : i = b.length
    · rw [List.drop_eq_nil_of_le (show b.length ≤ i by omega)]
      exact Ev.pos (by omega) (Ev.const _)
    · have hlb : i < b.length := by omega
      rw [List.drop_eq_getElem_cons hlb]
      simp only [rd_get b i hlb, cmp_f, Option.bind_some, cmpL]
      refine Ev.neg (by omega) (Ev.pos (by omega) ?_)
      by_cases hc : cmpV a[i] b[i] = 0
      · rw [if_pos hc]
        exact Ev.pos hc (ih (by omega))
      · rw [if_neg hc]
        exact Ev.neg hc (Ev.const _)
theorem cmpl_ev (a b : List Int) (ha : a.length ≤ 1000000) : Ev (fun k => slices_Compare_int_int.f k a b) (cmpL a b) := by
  simp only [slices_Compare_int_int.f]
  exact cmpl_l0 a b ha a.length 0 (by omega) (by omega)
/-- A set with those of some nodes whose bits are set. -/
def addm (m : Nat) : List Int → Nat → (Nat → Bool) → (Nat → Bool)
  | [], _, p => p
  | x :: r, i, p => addm m r (i + 1) (if m.testBit i then fun b => p b || decide ((b : Int) = x) else p)
theorem addm_iff (m : Nat) (b : Nat) : ∀ (r : List Int) (i : Nat) (p : Nat → Bool), addm m r i p b = true ↔ (p b = true ∨ ∃ j, ∃ h : j < r.length, m.testBit (i + j) = true ∧ (b : Int) = r[j])
  | [], i, p => by simp [addm]
  | x :: r, i, p => by
    rw [addm, addm_iff m b r (i + 1)]
    constructor
    · rintro (h | ⟨j, hj, h1, h2⟩)
      · by_cases ht : m.testBit i = true
        · rw [if_pos ht, Bool.or_eq_true] at h
          rcases h with h | h
          · exact .inl h
          · exact .inr ⟨0, by simp, by simpa using ht, by simpa using h⟩
        · rw [if_neg ht] at h
          exact .inl h
      · exact .inr ⟨j + 1, by simp; omega, by rw [← Nat.add_assoc, Nat.add_right_comm]; exact h1, by simpa using h2⟩
    · rintro (h | ⟨j, hj, h1, h2⟩)
      · left
        split
        · simp [h]
        · exact h
      · cases j with
        | zero =>
          left
          simp only [Nat.add_zero] at h1
          rw [if_pos h1, Bool.or_eq_true]
          right
          simpa using h2
        | succ j =>
          right
          exact ⟨j, by simpa using hj, by rw [Nat.add_right_comm, Nat.add_assoc]; exact h1, by simpa using h2⟩
def rst (N : Int) (s : List Int) : List Int := lst (fun a => decide ((a : Int) < N) && !inl s a)
def cnd (N : Int) (s : List Int) (m : Nat) : List Int := lst (addm m (rst N s) 0 (inl s))
/-- The better one of the best so far and a new set. -/
def lstep (N : Int) (L : List S42) (kind : Int) (c : List Int) (st : List Int × Int) : List Int × Int :=
  if hopeless N c kind then st
  else if st.2 < 0 then (c, ((dut N L c kind).length : Int))
  else if orL [cmpV ((dut N L c kind).length : Int) st.2, cmpV (c.length : Int) (st.1.length : Int), cmpL c st.1] < 0 then (c, ((dut N L c kind).length : Int)) else st
def lfold (N : Int) (L : List S42) (s : List Int) (kind : Int) : Nat → Nat → (List Int × Int) → (List Int × Int)
  | 0, _, st => st
  | n + 1, m, st => lfold N L s kind n (m + 1) (lstep N L kind (cnd N s m) st)
theorem mask_bit (m i : Nat) (hm : m < 9223372036854775808) (hi : i < 64) : (Go.bits .and .i64 (shr .i64 (m : Int) (i : Int)) 1 = 1) ↔ m.testBit i = true := by
  have e : shr .i64 (m : Int) (i : Int) = ((m / 2 ^ i : Nat) : Int) := by
    unfold shr
    rw [show min ((i : Int).toNat) IntKind.i64.bits = i by show min ((i : Int).toNat) 64 = i; omega]
    push_cast
    rfl
  rw [e, Go.Proofs.and_one _ (Nat.lt_of_le_of_lt (Nat.div_le_self _ _) hm), Nat.testBit_eq_decide_div_mod_eq, decide_eq_true_iff]
  omega
section
variable {N : Int} {L : List S42} {s : List Int} {kind : Int}
theorem rst_mem (hN : N ≤ 64) (x : Int) : x ∈ rst N s ↔ 0 ≤ x ∧ x < N ∧ ¬ x ∈ s := by
  unfold rst
  rw [lst_mem (fun a ha => by rw [decide_eq_false (by omega)]; rfl)]
  constructor
  · rintro ⟨h0, h1⟩
    rw [Bool.and_eq_true, inl_nat s x h0, Bool.not_eq_true'] at h1
    have h2 := of_decide_eq_true h1.1
    exact ⟨h0, by omega, of_decide_eq_false h1.2⟩
  · rintro ⟨h0, h1, h2⟩
    refine ⟨h0, ?_⟩
    rw [Bool.and_eq_true, inl_nat s x h0, Bool.not_eq_true']
    exact ⟨decide_eq_true (by omega), decide_eq_false h2⟩
theorem rst_len (hN : 0 ≤ N) (hN2 : N ≤ 64) : ((rst N s).length : Int) ≤ N := by
  have := ints_len (rst N s) 0 N hN (lst_ord _) (fun x hx => by have := (rst_mem hN2 x).1 hx; omega)
  omega
theorem cnd_mem (hN : N ≤ 64) (hs : SetL N s) (m : Nat) (x : Int) : x ∈ cnd N s m ↔ (x ∈ s ∨ ∃ j, ∃ h : j < (rst N s).length, m.testBit j = true ∧ x = (rst N s)[j]) := by
  unfold cnd
  have hr : ∀ (j : Nat) (h : j < (rst N s).length), 0 ≤ (rst N s)[j] ∧ (rst N s)[j] < N := fun j h => by
    have := (rst_mem (s := s) hN _).1 (List.getElem_mem h)
    exact ⟨this.1, this.2.1⟩
  rw [lst_mem (fun a ha => by
    rw [Bool.eq_false_iff]
    intro h
    rcases (addm_iff m a (rst N s) 0 (inl s)).1 h with h | ⟨j, hj, _, h⟩
    · have := hs.1 _ (of_decide_eq_true h); omega
    · have := hr j hj; omega)]
  rw [addm_iff]
  constructor
  · rintro ⟨h0, h | ⟨j, hj, h1, h2⟩⟩
    · rw [inl_nat s x h0] at h
      exact .inl (of_decide_eq_true h)
    · exact .inr ⟨j, hj, by simpa using h1, by omega⟩
  · rintro (h | ⟨j, hj, h1, h2⟩)
    · have := hs.1 x h
      exact ⟨this.1, .inl (by rw [inl_nat s x this.1]; exact decide_eq_true h)⟩
    · have := hr j hj
      exact ⟨by omega, .inr ⟨j, hj, by simpa using h1, by omega⟩⟩
theorem cnd_set (hN : N ≤ 64) (hs : SetL N s) (m : Nat) : SetL N (cnd N s m) := by
  refine ⟨fun x hx => ?_, lst_ord _⟩
  rcases (cnd_mem hN hs m x).1 hx with h | ⟨j, hj, _, rfl⟩
  · exact hs.1 x h
  · have := (rst_mem (s := s) hN _).1 (List.getElem_mem hj)
    exact ⟨this.1, this.2.1⟩
theorem cnd_sub (hN : N ≤ 64) (hs : SetL N s) (m : Nat) (x : Int) (hx : x ∈ s) : x ∈ cnd N s m := (cnd_mem hN hs m x).2 (.inl hx)
theorem cnd_zero (hN : N ≤ 64) (hs : SetL N s) : cnd N s 0 = s := by
  refine ints_unique (lst_ord _) hs.2 fun x => ?_
  rw [cnd_mem hN hs]
  constructor
  · rintro (h | ⟨j, _, h, _⟩)
    · exact h
    · simp at h
  · exact .inl
theorem loose_l1 (hG : GoodG N L) (hs : SetL N s) {base : Int} (m : Nat) (hm : m < 1024) (hr10 : (rst N s).length ≤ 10) (st : List Int × Int) {x13 x41 : Int} {V : List Int × List S42 × List (List S42) × Int} (hx13 : x13 = (m : Int))
    (ih : Ev (fun k => enforce_Loose.l0 k kind base (rst N s) (lstep N L kind (cnd N s m) st).1 (lstep N L kind (cnd N s m) st).2 x41 ((m + 1 : Nat) : Int) N L) V) :
    ∀ (n i : Nat), n + i = (rst N s).length → ∀ (x14 : Int) (p : Nat → Bool), Rep x14 p → addm m ((rst N s).drop i) i p = addm m (rst N s) 0 (inl s) →
      Ev (fun k => enforce_Loose.l1 k kind base (rst N s) st.1 st.2 x13 x14 x41 (m : Int) (rst N s) ((rst N s).length : Int) (i : Int) N L) V
  | 0, i, hi, x14, p, hp, he => by
    have hw := up1 m (by omega)
    refine Ev.succ ?_
    simp only [enforce_Loose.l1, hopeless_f, Option.bind_some, hw]
    refine Ev.neg (by omega) ?_
    rw [List.drop_eq_nil_of_le (by omega), addm] at he
    have hc : lst p = cnd N s m := by unfold cnd; rw [he]
    have hL := list_ev hp
    rw [hc] at hL
    refine Ev.bind hL ?_
    unfold lstep at ih
    by_cases hh : hopeless N (cnd N s m) kind
    · rw [if_pos hh] at ih
      exact Ev.pos (decide_eq_true hh) ih
    · rw [if_neg hh] at ih
      refine Ev.neg (by simpa using hh) (Ev.bind (duties_ok hG (cnd_set (by have := hG.n1; omega) hs m) kind) ?_)
      by_cases h0 : st.2 < 0
      · rw [if_pos h0] at ih
        exact Ev.pos h0 ih
      · rw [if_neg h0] at ih
        refine Ev.neg h0 ?_
        simp only [cmp_f, Option.bind_some]
        have hcl : (cnd N s m).length ≤ 1000000 := Nat.le_trans (lst_len _) (by omega)
        refine Ev.bind (cmpl_ev _ _ hcl) (Ev.bind (orl_ev _ (by simp)) ?_)
        by_cases ho : orL [cmpV ((dut N L (cnd N s m) kind).length : Int) st.2, cmpV ((cnd N s m).length : Int) (st.1.length : Int), cmpL (cnd N s m) st.1] < 0
        · rw [if_pos ho] at ih
          exact Ev.pos ho ih
        · rw [if_neg ho] at ih
          exact Ev.neg ho ih
  | n + 1, i, hi, x14, p, hp, he => by
    have hlt : i < (rst N s).length := by omega
    have hN := hG.n1
    have hx := (rst_mem (s := s) (N := N) (by omega) _).1 (List.getElem_mem hlt)
    rw [List.drop_eq_getElem_cons hlt, addm] at he
    refine Ev.succ ?_
    simp only [enforce_Loose.l1, rd_get (rst N s) i hlt, up1 i (by omega)]
    refine Ev.pos (by omega) (Ev.pos (by omega) (Ev.pos (by omega) ?_))
    subst hx13
    by_cases hb : m.testBit i = true
    · rw [if_pos hb] at he
      obtain ⟨v, e1, hv⟩ := with_ok hp ((rst N s)[i]).toNat (by omega)
      rw [show ((((rst N s)[i]).toNat : Nat) : Int) = (rst N s)[i] by omega] at e1
      refine Ev.pos ((mask_bit m i (by omega) (by omega)).2 hb) ?_
      simp only [e1, Option.bind_some]
      refine loose_l1 hG hs m hm hr10 st rfl ih n (i + 1) (by omega) v _ (hv.congr fun b => ?_) he
      congr 1
      exact decide_eq_decide.2 (by omega)
    · rw [if_neg hb] at he
      refine Ev.neg (fun h => hb ((mask_bit m i (by omega) (by omega)).1 h)) ?_
      exact loose_l1 hG hs m hm hr10 st rfl ih n (i + 1) (by omega) x14 p hp he
end
end Go.Proofs.YtjmdlmogdbhdhaaDoor.P
/- Plain facts: Loose returns the least change of the best set. -/
namespace Go.Proofs.YtjmdlmogdbhdhaaDoor.P
open Go.RowKit Go.Proofs.YtjmdlmogdbhdhaaDoorW.PrintWords Go.Proofs.YtjmdlmogdbhdhaaDoorW.PrintLast Go.Proofs.YtjmdlmogdbhdhaaDoorW.PrintMore
section
variable {N : Int} {L : List S42} {s : List Int} {kind : Int}
theorem loose_l0 (hG : GoodG N L) (hs : SetL N s) {base : Int} (hb : Rep base (inl s)) (hr10 : (rst N s).length ≤ 10) {x41 : Int} (hx : x41 = ((2 ^ (rst N s).length : Nat) : Int)) :
    ∀ (n m : Nat), n + m = 2 ^ (rst N s).length → ∀ (st : List Int × Int) (V : List Int × List S42 × List (List S42)), Ev (fun k => enforce_strict.f k N L (lfold N L s kind n m st).1 kind) V → Ev (fun k => enforce_Loose.l0 k kind base (rst N s) st.1 st.2 x41 (m : Int) N L) (V.1, V.2.1, V.2.2, 0)
  | 0, m, hm, st, V, hV => by
    refine Ev.succ ?_
    simp only [enforce_Loose.l0]
    exact Ev.neg (by omega) (Ev.bind hV (Ev.const _))
  | n + 1, m, hm, st, V, hV => by
    have hp : 2 ^ (rst N s).length ≤ 2 ^ 10 := Nat.pow_le_pow_right (by omega) hr10
    have ih := loose_l0 hG hs hb hr10 hx n (m + 1) (by omega) (lstep N L kind (cnd N s m) st) V hV
    refine Ev.succ ?_
    simp only [enforce_Loose.l0]
    refine Ev.pos (by omega) ?_
    exact loose_l1 hG hs m (by omega) hr10 st rfl ih (rst N s).length 0 (by omega) base (inl s) hb rfl
theorem orl_lt (a b c d : Int) : (orL [cmpV a b, c, d] < 0 → a ≤ b) ∧ (¬ orL [cmpV a b, c, d] < 0 → b ≤ a) := by
  unfold cmpV
  by_cases h1 : a < b
  · simp [orL, h1]
    omega
  · by_cases h2 : a > b
    · simp [orL, h1, h2]
      omega
    · have : a = b := by omega
      subst this
      simp
/-- What holds of the best set so far, behind m sets. -/
def LInv (N : Int) (L : List S42) (s : List Int) (kind : Int) (m : Nat) (st : List Int × Int) : Prop :=
  (st = ([], -1) ∧ ∀ j, j < m → hopeless N (cnd N s j) kind) ∨
  ∃ j, j < m ∧ st.1 = cnd N s j ∧ ¬ hopeless N (cnd N s j) kind ∧ st.2 = ((dut N L (cnd N s j) kind).length : Int) ∧ ∀ i, i < m → ¬ hopeless N (cnd N s i) kind → st.2 ≤ ((dut N L (cnd N s i) kind).length : Int)
theorem lstep_inv (m : Nat) (st : List Int × Int) (h : LInv N L s kind m st) : LInv N L s kind (m + 1) (lstep N L kind (cnd N s m) st) := by
  unfold lstep
  by_cases hh : hopeless N (cnd N s m) kind
  · rw [if_pos hh]
    rcases h with ⟨h1, h2⟩ | ⟨j, h1, h2, h3, h4, h5⟩
    · exact .inl ⟨h1, fun j hj => by
        by_cases hjm : j = m
        · rw [hjm]; exact hh
        · exact h2 j (by omega)⟩
    · exact .inr ⟨j, by omega, h2, h3, h4, fun i hi hn => by
        by_cases him : i = m
        · rw [him] at hn; exact absurd hh hn
        · exact h5 i (by omega) hn⟩
  · rw [if_neg hh]
    rcases h with ⟨h1, h2⟩ | ⟨j, h1, h2, h3, h4, h5⟩
    · rw [if_pos (by rw [h1]; show (-1 : Int) < 0; omega)]
      exact .inr ⟨m, by omega, rfl, hh, rfl, fun i hi hn => by
        by_cases him : i = m
        · rw [him]; exact Int.le_refl _
        · exact absurd (h2 i (by omega)) hn⟩
    · rw [if_neg (by omega)]
      have ho := orl_lt ((dut N L (cnd N s m) kind).length : Int) st.2 (cmpV ((cnd N s m).length : Int) (st.1.length : Int)) (cmpL (cnd N s m) st.1)
      by_cases hc : orL [cmpV ((dut N L (cnd N s m) kind).length : Int) st.2, cmpV ((cnd N s m).length : Int) (st.1.length : Int), cmpL (cnd N s m) st.1] < 0
      · rw [if_pos hc]
        have := ho.1 hc
        exact .inr ⟨m, by omega, rfl, hh, rfl, fun i hi hn => by
          by_cases him : i = m
          · rw [him]; exact Int.le_refl _
          · have := h5 i (by omega) hn
            show ((dut N L (cnd N s m) kind).length : Int) ≤ _
            omega⟩
      · rw [if_neg hc]
        have := ho.2 hc
        exact .inr ⟨j, by omega, h2, h3, h4, fun i hi hn => by
          by_cases him : i = m
          · rw [him]; exact this
          · exact h5 i (by omega) hn⟩
theorem lfold_inv : ∀ (n m : Nat) (st : List Int × Int), LInv N L s kind m st → LInv N L s kind (n + m) (lfold N L s kind n m st)
  | 0, m, st, h => by rw [Nat.zero_add]; exact h
  | n + 1, m, st, h => by
    have := lfold_inv n (m + 1) (lstep N L kind (cnd N s m) st) (lstep_inv m st h)
    rw [show n + 1 + m = n + (m + 1) by omega]
    exact this
/-- The best set. -/
def lbest (N : Int) (L : List S42) (s : List Int) (kind : Int) : List Int := (lfold N L s kind (2 ^ (rst N s).length) 0 ([], -1)).1
theorem lbest_facts (hN : N ≤ 64) (hs : SetL N s) : ∃ j, j < 2 ^ (rst N s).length ∧ lbest N L s kind = cnd N s j ∧ ¬ hopeless N (cnd N s j) kind ∧ ∀ i, i < 2 ^ (rst N s).length → ¬ hopeless N (cnd N s i) kind → (dut N L (cnd N s j) kind).length ≤ (dut N L (cnd N s i) kind).length := by
  have h := lfold_inv (N := N) (L := L) (s := s) (kind := kind) (2 ^ (rst N s).length) 0 ([], -1) (.inl ⟨rfl, fun j hj => absurd hj (by omega)⟩)
  rw [Nat.add_zero] at h
  rcases h with ⟨_, h2⟩ | ⟨j, h1, h2, h3, h4, h5⟩
  · exfalso
    have hp := Nat.two_pow_pos (rst N s).length
    have h0 := h2 0 hp
    rw [cnd_zero hN hs] at h0
    obtain ⟨hs0, hk, hN0⟩ := h0
    have hm : (0 : Int) ∈ rst N s := (rst_mem hN 0).2 ⟨by omega, hN0, by rw [hs0]; simp⟩
    have hl := List.length_pos_of_mem hm
    have h1 := h2 1 (by
      have : 2 ^ 1 ≤ 2 ^ (rst N s).length := Nat.pow_le_pow_right (by omega) hl
      omega)
    have : (rst N s)[0] ∈ cnd N s 1 := (cnd_mem hN hs 1 _).2 (.inr ⟨0, hl, by decide, rfl⟩)
    rw [h1.1] at this
    cases this
  · exact ⟨j, h1, h2, h3, fun i hi hn => by have := h5 i hi hn; omega⟩
theorem ne_of_hope' (hN : 0 ≤ N) (hk : kind = 1 ∨ kind = 2) {c : List Int} (h : ¬ hopeless N c kind) : 0 < c.length ∨ dut N L c kind = [] := ne_of_hope hN hk h
theorem Loose_ok (hG : GoodG N L) (hs : SetL N s) (hk : kind = 1 ∨ kind = 2) (hr10 : (rst N s).length ≤ 10) : Ev (fun k => enforce_Loose.f k N L s kind) (lbest N L s kind, chs N L (lbest N L s kind) kind, dut N L (lbest N L s kind) kind, 0) := by
  have h0 := hG.n0
  have h1 := hG.n1
  obtain ⟨u, e1, hu⟩ := hs.of h0 h1
  obtain ⟨al, by_, out, e2, hnet⟩ := new_ev hG
  obtain ⟨j, _, hj1, hj2, _⟩ := lbest_facts (L := L) (kind := kind) (by omega : N ≤ 64) hs
  have hbs : SetL N (lbest N L s kind) := by rw [hj1]; exact cnd_set (by omega) hs j
  have hst := strict_ok hG hbs (kind := kind) (ne_of_hope' h0 hk (by rw [hj1]; exact hj2))
  have hL : Ev (fun k => network_Set_List.f k (Go.bits .andNot .u64 al u)) (rst N s) := list_ev (hnet.al.andNot hu)
  have hp : (rst N s).length ≤ 10 := hr10
  have hsh : shl .i64 1 ((rst N s).length : Int) = ((2 ^ (rst N s).length : Nat) : Int) := by
    generalize (rst N s).length = r at hp
    have : r = 0 ∨ r = 1 ∨ r = 2 ∨ r = 3 ∨ r = 4 ∨ r = 5 ∨ r = 6 ∨ r = 7 ∨ r = 8 ∨ r = 9 ∨ r = 10 := by omega
    rcases this with rfl | rfl | rfl | rfl | rfl | rfl | rfl | rfl | rfl | rfl | rfl <;> decide
  have hl0 := loose_l0 (L := L) (kind := kind) hG hs hu hr10 hsh (2 ^ (rst N s).length) 0 (by omega) ([], -1) _ hst
  simp only [enforce_Loose.f]
  exact Ev.bind (args_ok hG hs hk) (Ev.pos rfl (Ev.bind e1 (Ev.bind e2 (Ev.bind hL (Ev.neg (by omega) hl0)))))
end
end Go.Proofs.YtjmdlmogdbhdhaaDoor.P
namespace Go.Proofs.YtjmdlmogdbhdhaaDoor.P
open Go.RowKit Go.Proofs.YtjmdlmogdbhdhaaDoorW.PrintWords Go.Proofs.YtjmdlmogdbhdhaaDoorW.PrintLast Go.Proofs.YtjmdlmogdbhdhaaDoorW.PrintMore
attribute [local go_sem] max2_int min2_int max_two min_two max_three min_three max_four min_four
set_option linter.unusedVariables false
set_option linter.unusedSimpArgs false
def deliberationlaw21_awake.f (k : Nat)  : Option (Bool) := (some (([(⟨1, 0⟩ : S42)] : List (S42)) : List (S42))).bind fun y292 => ((enforce_Strict.f k 2 y292 (([0] : List Int)) 1).bind fun bt299 => (if bt299.2.2.2 = 0 then ((deliberationnet_Pairs.f k bt299.2.1 (([(⟨0, 1⟩ : S42)] : List (S42)))).bind fun t313 => (if t313 = true then (if (bt299.2.2.1.length : Int) = 1 then (if 0 < (bt299.2.2.1.length : Int) then (if ((rd_L2 bt299.2.2.1 0).length : Int) = 2 then ((enforce_Check.f k 2 y292 1 bt299.1 bt299.2.1 bt299.2.2.1).bind fun t315 => (some (t315 == 0))) else (some false)) else (none)) else (some false)) else (some false))) else (some false)))
set_option maxHeartbeats 8000000 in
set_option maxRecDepth 100000 in
theorem deliberationlaw21_awake.calls (k : Nat)  (w : World) (hT : TabT w) (h : deliberationlaw21_awake.f k  = some true) :
 Calls Tryd.prog 10 #[] w fun e w' => e = .returned (.bool true) ∧ Below w.heap.size w w' := by
 have hu42 := Tryd.underlying42; have hu24 := Tryd.underlying24; have hu28 := Tryd.underlying28; have HTab := Aside0.mk hT; clear hT; have HB := Aside0.mk (Below.refl w.heap.size w); have H : ((some (([(⟨1, 0⟩ : S42)] : List (S42)) : List (S42))).bind fun y292 => ((enforce_Strict.f k 2 y292 (([0] : List Int)) 1).bind fun bt299 => (if bt299.2.2.2 = 0 then ((deliberationnet_Pairs.f k bt299.2.1 (([(⟨0, 1⟩ : S42)] : List (S42)))).bind fun t313 => (if t313 = true then (if (bt299.2.2.1.length : Int) = 1 then (if 0 < (bt299.2.2.1.length : Int) then (if ((rd_L2 bt299.2.2.1 0).length : Int) = 2 then ((enforce_Check.f k 2 y292 1 bt299.1 bt299.2.1 bt299.2.2.1).bind fun t315 => (some (t315 == 0))) else (some false)) else (none)) else (some false)) else (some false))) else (some false)))) = some true := h; clear h; obtain ⟨y292, hy292⟩ : ∃ y_ : List (S42), y_ = (([(⟨1, 0⟩ : S42)] : List (S42))) := ⟨_, rfl⟩; replace H : ((enforce_Strict.f k 2 y292 (([0] : List Int)) 1).bind fun bt299 => (if bt299.2.2.2 = 0 then ((deliberationnet_Pairs.f k bt299.2.1 (([(⟨0, 1⟩ : S42)] : List (S42)))).bind fun t313 => (if t313 = true then (if (bt299.2.2.1.length : Int) = 1 then (if 0 < (bt299.2.2.1.length : Int) then (if ((rd_L2 bt299.2.2.1 0).length : Int) = 2 then ((enforce_Check.f k 2 y292 1 bt299.1 bt299.2.1 bt299.2.2.1).bind fun t315 => (some (t315 == 0))) else (some false)) else (none)) else (some false)) else (some false))) else (some false))) = some true := by first | (rw [hy292]; with_reducible exact H) | (have H2_ := (Option.bind_some _ _).symm.trans H; rw [hy292]; with_reducible exact H2_) | (have H2_ := (Option.bind_some _ _).symm.trans H; with_reducible exact H2_) | with_reducible exact H | (rw [hy292]; exact H) | exact H
 have Ny292 := Aside0.mk hy292; clear hy292; obtain ⟨y296, hy296⟩ : ∃ y_ : List Int, y_ = (([0] : List Int)) := ⟨_, rfl⟩; replace H : ((enforce_Strict.f k 2 y292 y296 1).bind fun bt299 => (if bt299.2.2.2 = 0 then ((deliberationnet_Pairs.f k bt299.2.1 (([(⟨0, 1⟩ : S42)] : List (S42)))).bind fun t313 => (if t313 = true then (if (bt299.2.2.1.length : Int) = 1 then (if 0 < (bt299.2.2.1.length : Int) then (if ((rd_L2 bt299.2.2.1 0).length : Int) = 2 then ((enforce_Check.f k 2 y292 1 bt299.1 bt299.2.1 bt299.2.2.1).bind fun t315 => (some (t315 == 0))) else (some false)) else (none)) else (some false)) else (some false))) else (some false))) = some true := by first | (rw [hy296]; with_reducible exact H) | (have H2_ := (Option.bind_some _ _).symm.trans H; rw [hy296]; with_reducible exact H2_) | (have H2_ := (Option.bind_some _ _).symm.trans H; with_reducible exact H2_) | with_reducible exact H | (rw [hy296]; exact H) | exact H
 have Ny296 := Aside0.mk hy296; clear hy296; replace H := Option.bind_eq_some_iff.mp H; obtain ⟨⟨t299, t302, t305, t308⟩, A10, H⟩ := H; replace H : (if t308 = 0 then ((deliberationnet_Pairs.f k t302 (([(⟨0, 1⟩ : S42)] : List (S42)))).bind fun t313 => (if t313 = true then (if (t305.length : Int) = 1 then (if 0 < (t305.length : Int) then (if ((rd_L2 t305 0).length : Int) = 2 then ((enforce_Check.f k 2 y292 1 t299 t302 t305).bind fun t315 => (some (t315 == 0))) else (some false)) else (none)) else (some false)) else (some false))) else (some false)) = some true := H; have A1 := Aside0.mk A10; clear A10; by_cases c2 : t308 = 0
 · rw [if_pos c2] at H; have c2b0 : (t308 == 0) = true := beq_iff_eq.mpr c2; have c2b1 : (t308 != 0) = false := bne_eq_false_iff_eq.mpr c2; clear c2; obtain ⟨y310, hy310⟩ : ∃ y_ : List (S42), y_ = (([(⟨0, 1⟩ : S42)] : List (S42))) := ⟨_, rfl⟩; replace H : ((deliberationnet_Pairs.f k t302 y310).bind fun t313 => (if t313 = true then (if (t305.length : Int) = 1 then (if 0 < (t305.length : Int) then (if ((rd_L2 t305 0).length : Int) = 2 then ((enforce_Check.f k 2 y292 1 t299 t302 t305).bind fun t315 => (some (t315 == 0))) else (some false)) else (none)) else (some false)) else (some false))) = some true := by first | (rw [hy310]; with_reducible exact H) | (have H2_ := (Option.bind_some _ _).symm.trans H; rw [hy310]; with_reducible exact H2_) | (have H2_ := (Option.bind_some _ _).symm.trans H; with_reducible exact H2_) | with_reducible exact H | (rw [hy310]; exact H) | exact H
   have Ny310 := Aside0.mk hy310; clear hy310; replace H := Option.bind_eq_some_iff.mp H; obtain ⟨t313, A30, H⟩ := H; replace H : (if t313 = true then (if (t305.length : Int) = 1 then (if 0 < (t305.length : Int) then (if ((rd_L2 t305 0).length : Int) = 2 then ((enforce_Check.f k 2 y292 1 t299 t302 t305).bind fun t315 => (some (t315 == 0))) else (some false)) else (none)) else (some false)) else (some false)) = some true := H; have A3 := Aside0.mk A30; clear A30; by_cases c4 : t313 = true
   · subst c4; have H1 : (if (t305.length : Int) = 1 then (if 0 < (t305.length : Int) then (if ((rd_L2 t305 0).length : Int) = 2 then ((enforce_Check.f k 2 y292 1 t299 t302 t305).bind fun t315 => (some (t315 == 0))) else (some false)) else (none)) else (some false)) = some true := by rw [if_pos rfl] at H; exact H
     clear H; have H := H1; clear H1; by_cases c5 : (t305.length : Int) = 1
     · rw [if_pos c5] at H; have c5b0 : ((t305.length : Int) == 1) = true := beq_iff_eq.mpr c5; have c5b1 : ((t305.length : Int) != 1) = false := bne_eq_false_iff_eq.mpr c5; clear c5; by_cases c6 : 0 < (t305.length : Int)
       · rw [if_pos c6] at H; have c6b0 : decide (0 < (t305.length : Int)) = true := decide_eq_true c6; have c6b1 : decide (0 < t305.length) = true := decide_eq_true (by omega); clear c6; by_cases c7 : ((rd_L2 t305 0).length : Int) = 2
         · rw [if_pos c7] at H; have c7b0 : (((rd_L2 t305 0).length : Int) == 2) = true := beq_iff_eq.mpr c7; have c7b1 : (((rd_L2 t305 0).length : Int) != 2) = false := bne_eq_false_iff_eq.mpr c7; clear c7; replace H := Option.bind_eq_some_iff.mp H; obtain ⟨t315, A80, H⟩ := H; replace H : (some (t315 == 0)) = some true := H; have A8 := Aside0.mk A80; clear A80; obtain rfl := eq_of_beq (Option.some.inj H); go_enter Tryd.func10, Tryd.ntmps10; go_wp2_with (first | ((with_reducible refine gate_dst (N := 5) rfl ?_); (try (refine gate_guard (by rfl) ?_; dsimp only)); refine Kd.R_lit k42 _ 42 ?hg (N := 5) ?hd (xs := ([(⟨1, 0⟩ : S42)] : List (S42))) (inner := [.int .i64 1, .int .i64 0]) (ok := fun _ => True) (okp := fun _ => True) ?hr ?hp (fun _ hk => hk) trivial (Below.refl _ _) (Nat.le_refl _) (by simp) ?_; (case hd => rfl); (case hg => rfl); (case hr => first | (go_simp; done) | (go_simp; rfl)); (case hp => exact (Reps.c2 (show Kd.M k42 _ _ _ (⟨1, 0⟩ : S42) [.int .i64 1, .int .i64 0] from (k42_mkM _ _ _ (⟨1, 0⟩ : S42) )) (Reps.none _ _))); intro v293 w9 ho10 hb hg_ hnew_; clear hg_ hnew_; (first | rw [← Ny292.out] at ho10 | (simp only [Int.reduceToNat] at ho10; rw [← Ny292.out] at ho10)); have HO294 := Aside0.mk (Kd.R_lower ho10 (below_size (zB HB))); replace HB := Aside0.mk (below_step (zB HB) hb); clear hb ho10; obtain ⟨Ao11, co11, eo11⟩ := Kd.R_slice HO294.out; subst eo11) | ((with_reducible refine gate_dst (N := 1) rfl ?_); (try (refine gate_guard (by rfl) ?_; dsimp only)); refine zX (N := 1) (cs := #[.int .i64 0, .slice none 0 0]) (t := 24) ?_; intro gb295 hg w12 hbox hb; have BK295 := Aside0.mk (hbox); have GW295 := Aside0.mk (zW hg HB); have GE295 := Aside0.mk (zW hg HB); replace HO294 := Aside0.mk (Kd.R_below (zR HO294) hb); replace HB := Aside0.mk (below_step (zB HB) hb); clear hb hbox hg; have hcz13_0 := zc BK295 0; have hcz13_1 := zc BK295 1; have hfz13_0 := blk_frozen BK295.out 0; have hfz13_1 := blk_frozen BK295.out 1) | ((with_reducible refine gate_dst (N := 9) rfl ?_); (try (refine gate_guard (by rfl) ?_; dsimp only)); refine Kd.R_lit (Kd.int .i64) _ 3 ?hg (N := 9) ?hd (xs := ([0] : List Int)) (inner := [.int .i64 0]) (ok := fun _ => True) (okp := fun _ => True) ?hr ?hp (fun _ hk => hk) trivial (Below.refl _ _) (Nat.le_refl _) (by simp) ?_; (case hd => rfl); (case hg => rfl); (case hr => first | (go_simp; done) | (go_simp; rfl)); (case hp => exact (Reps.one (show Kd.M (Kd.int .i64) _ _ _ 0 [.int .i64 0] from rfl) (Reps.none _ _))); intro v297 w14 ho15 hb hg_ hnew_; clear hg_ hnew_; (first | rw [← Ny296.out] at ho15 | (simp only [Int.reduceToNat] at ho15; rw [← Ny296.out] at ho15)); have HO298 := Aside0.mk (Kd.R_lower ho15 (below_size (zB HB))); replace HO294 := Aside0.mk (Kd.R_below (by refine zkR ?_; exact (Kd.R_mono (Kd.R_far (p := ⟨gb295, 1, none⟩) (Kd.R_far (p := ⟨gb295, 0, none⟩) (Kd.R_types HO294.out BK295.out (by decide)) (fun _ hk => hk.2) (.int .i64 2)) (fun _ hk => hk.2) (.slice Ao11 y292.length co11)) (fun _ h_ => h_.1))) hb); replace BK295 := Aside0.mk (blk_below (g := gb295) (o := .cells #[.int .i64 2, .slice Ao11 y292.length co11] 24 (0, 0)) (by refine zk ?_; refine blk_put (cs := #[.int .i64 2, .slice none 0 0]) ?_ 1 _ rfl; refine zk ?_; refine blk_put (cs := #[.int .i64 0, .slice none 0 0]) ?_ 0 _ rfl; refine zk ?_; exact BK295.out) hb); replace HB := Aside0.mk (below_step (zB HB) hb); clear hb ho15; obtain ⟨Ao16, co16, eo16⟩ := Kd.R_slice HO298.out; subst eo16) | ((with_reducible refine gate_callee (f := 24) rfl ?_); refine zG (some 10) rfl Tryd.func24 #[.agg #[.int .i64 2, .slice Ao11 y292.length co11], .slice Ao16 y296.length co16, .int .i64 1] ?_; (with_reducible refine (enforce_Strict.calls k 2 _ _ y292 _ _ y296 1 t299 t302 t305 t308 _ ?side1 ?side2 ?side3 ?side4 ?side5 A1.out).mono ?_); (case side1 => repeat (first | exact (Kd.R_reads' HO294.out).2.2 | (with_reducible refine Kd.C_alloc ?_ _) | (with_reducible refine Kd.C_drewN ?_ _) | (with_reducible refine Kd.C_drew ?_))); (case side2 => exact (Kd.R_reads' HO294.out).2.1); (case side3 => repeat (first | exact (Kd.R_reads' HO298.out).2.2 | (with_reducible refine Kd.C_alloc ?_ _) | (with_reducible refine Kd.C_drewN ?_ _) | (with_reducible refine Kd.C_drew ?_))); (case side4 => exact (Kd.R_reads' HO298.out).2.1); (case side5 => exact TabT.now HTab.out (zB HB)); rintro e w17 ⟨v300, v303, v306, rfl, ho0, ho1, ho2, hb⟩; refine ⟨_, rfl, ?_⟩; have HO301 := Aside0.mk (Kd.R_lower (Kd.R_new' ho0 (Kd.R_lt (zR HO298))) (below_size (zB HB))); have HO304 := Aside0.mk (Kd.R_lower (Kd.R_new' ho1 (Kd.R_lt (zR HO294))) (below_size (zB HB))); have HO307 := Aside0.mk (Kd.S_lower (Kd.S_new' ho2 (Kd.R_lt (zR HO294))) (below_size (zB HB))); replace HO294 := Aside0.mk (Kd.R_elder' (zR HO294) (Kd.R_base ho1) hb); replace HO298 := Aside0.mk (Kd.R_elder' (zR HO298) (Kd.R_base ho0) hb); replace BK295 := Aside0.mk (zKb BK295 hb); replace HB := Aside0.mk (below_step (zB HB) hb); (try clear hb); (try clear hb2); (try clear hk); (try clear hi); (try clear ho0); (try clear ho1); (try clear ho2)) | ((with_reducible refine gate_dst (N := 2) rfl ?_); (try (refine gate_guard (by rfl) ?_; dsimp only)); refine zX (N := 2) (cs := #[.slice none 0 0, .slice none 0 0, .slice none 0 0]) (t := 28) ?_; intro gb309 hg w18 hbox hb; have BK309 := Aside0.mk (hbox); have GW309 := Aside0.mk (zW hg HB); have GE309 := Aside0.mk (zW hg HB); have NB295_309 := Aside0.mk (zNl hg BK295); have NB309_295 := Aside0.mk (zNr hg BK295); replace HO294 := Aside0.mk (Kd.R_below (zR HO294) hb); replace HO298 := Aside0.mk (Kd.R_below (zR HO298) hb); replace HO301 := Aside0.mk (Kd.R_below (zR HO301) hb); replace HO304 := Aside0.mk (Kd.R_below (zR HO304) hb); replace HO307 := Aside0.mk (Kd.S_below (zS HO307) hb); replace BK295 := Aside0.mk (zKb BK295 hb); replace HB := Aside0.mk (below_step (zB HB) hb); clear hb hbox hg; obtain ⟨Ao19, co19, eo19⟩ := Kd.R_slice HO301.out; subst eo19; have hnb20 := NB309_295.out; have hnc20 := NB295_309.out; have hcz21_0 := zc BK309 0; have hcz21_1 := zc BK309 1; have hcz21_2 := zc BK309 2; have hfz21_0 := blk_frozen BK309.out 0; have hfz21_1 := blk_frozen BK309.out 1; have hfz21_2 := blk_frozen BK309.out 2; obtain ⟨Ao22, co22, eo22⟩ := Kd.R_slice HO304.out; subst eo22; obtain ⟨Ao23, co23, eo23⟩ := Kd.S_slice HO307.out; subst eo23) | ((with_reducible refine gate_dst (N := 19) rfl ?_); (try (refine gate_guard (by rfl) ?_; dsimp only)); refine Kd.R_lit k42 _ 42 ?hg (N := 19) ?hd (xs := ([(⟨0, 1⟩ : S42)] : List (S42))) (inner := [.int .i64 0, .int .i64 1]) (ok := fun _ => True) (okp := fun _ => True) ?hr ?hp (fun _ hk => hk) trivial (Below.refl _ _) (Nat.le_refl _) (by simp) ?_; (case hd => rfl); (case hg => rfl); (case hr => first | (go_simp; done) | (go_simp; rfl)); (case hp => exact (Reps.c2 (show Kd.M k42 _ _ _ (⟨0, 1⟩ : S42) [.int .i64 0, .int .i64 1] from (k42_mkM _ _ _ (⟨0, 1⟩ : S42) )) (Reps.none _ _))); intro v311 w24 ho25 hb hg_ hnew_; clear hg_ hnew_; (first | rw [← Ny310.out] at ho25 | (simp only [Int.reduceToNat] at ho25; rw [← Ny310.out] at ho25)); have HO312 := Aside0.mk (Kd.R_lower (Kd.R_new' (Kd.R_new' ho25 (Kd.R_lt (by refine zkR ?_; exact (Kd.R_mono (Kd.R_far (p := ⟨gb309, 2, none⟩) (Kd.R_far (p := ⟨gb309, 1, none⟩) (Kd.R_far (p := ⟨gb309, 0, none⟩) (Kd.R_types HO294.out BK309.out (by decide)) (fun _ hk => hk.2) (.slice Ao19 t299.length co19)) (fun _ hk => hk.2) (.slice Ao22 t302.length co22)) (fun _ hk => hk.2) (.slice Ao23 t305.length co23)) (fun _ h_ => h_.1))))) (Kd.R_lt (by refine zkR ?_; exact (Kd.R_mono (Kd.R_far (p := ⟨gb309, 2, none⟩) (Kd.R_far (p := ⟨gb309, 1, none⟩) (Kd.R_far (p := ⟨gb309, 0, none⟩) (Kd.R_types HO304.out BK309.out (by decide)) (fun _ hk => hk.2) (.slice Ao19 t299.length co19)) (fun _ hk => hk.2) (.slice Ao22 t302.length co22)) (fun _ hk => hk.2) (.slice Ao23 t305.length co23)) (fun _ h_ => h_.1))))) (below_size (zB HB))); replace HO294 := Aside0.mk (Kd.R_elder' (by refine zkR ?_; exact (Kd.R_mono (Kd.R_far (p := ⟨gb309, 2, none⟩) (Kd.R_far (p := ⟨gb309, 1, none⟩) (Kd.R_far (p := ⟨gb309, 0, none⟩) (Kd.R_types HO294.out BK309.out (by decide)) (fun _ hk => hk.2) (.slice Ao19 t299.length co19)) (fun _ hk => hk.2) (.slice Ao22 t302.length co22)) (fun _ hk => hk.2) (.slice Ao23 t305.length co23)) (fun _ h_ => h_.1))) (Kd.R_base ho25) hb); replace HO298 := Aside0.mk (Kd.R_below (by refine zkR ?_; exact (Kd.R_mono (Kd.R_far (p := ⟨gb309, 2, none⟩) (Kd.R_far (p := ⟨gb309, 1, none⟩) (Kd.R_far (p := ⟨gb309, 0, none⟩) (Kd.R_types HO298.out BK309.out (by decide)) (fun _ hk => hk.2) (.slice Ao19 t299.length co19)) (fun _ hk => hk.2) (.slice Ao22 t302.length co22)) (fun _ hk => hk.2) (.slice Ao23 t305.length co23)) (fun _ h_ => h_.1))) hb); replace HO301 := Aside0.mk (Kd.R_below (by refine zkR ?_; exact (Kd.R_mono (Kd.R_far (p := ⟨gb309, 2, none⟩) (Kd.R_far (p := ⟨gb309, 1, none⟩) (Kd.R_far (p := ⟨gb309, 0, none⟩) (Kd.R_types HO301.out BK309.out (by decide)) (fun _ hk => hk.2) (.slice Ao19 t299.length co19)) (fun _ hk => hk.2) (.slice Ao22 t302.length co22)) (fun _ hk => hk.2) (.slice Ao23 t305.length co23)) (fun _ h_ => h_.1))) hb); replace HO304 := Aside0.mk (Kd.R_elder' (by refine zkR ?_; exact (Kd.R_mono (Kd.R_far (p := ⟨gb309, 2, none⟩) (Kd.R_far (p := ⟨gb309, 1, none⟩) (Kd.R_far (p := ⟨gb309, 0, none⟩) (Kd.R_types HO304.out BK309.out (by decide)) (fun _ hk => hk.2) (.slice Ao19 t299.length co19)) (fun _ hk => hk.2) (.slice Ao22 t302.length co22)) (fun _ hk => hk.2) (.slice Ao23 t305.length co23)) (fun _ h_ => h_.1))) (Kd.R_base ho25) hb); replace HO307 := Aside0.mk (Kd.S_elder' (by refine zkS ?_; exact (Kd.S_mono (Kd.S_far (p := ⟨gb309, 2, none⟩) (Kd.S_far (p := ⟨gb309, 1, none⟩) (Kd.S_far (p := ⟨gb309, 0, none⟩) (Kd.S_types HO307.out BK309.out (by decide)) (fun _ hk => hk.2) (.slice Ao19 t299.length co19)) (fun _ hk => hk.2) (.slice Ao22 t302.length co22)) (fun _ hk => hk.2) (.slice Ao23 t305.length co23)) (fun _ h_ => h_.1))) (Kd.R_base ho25) hb); replace BK295 := Aside0.mk (blk_below (g := gb295) (o := .cells #[.int .i64 2, .slice Ao11 y292.length co11] 24 (0, 0)) (by refine zk ?_; refine blk_far ?_ NB295_309.out _; refine zk ?_; refine blk_far ?_ NB295_309.out _; refine zk ?_; refine blk_far ?_ NB295_309.out _; refine zk ?_; exact BK295.out) hb); replace BK309 := Aside0.mk (blk_below (g := gb309) (o := .cells #[.slice Ao19 t299.length co19, .slice Ao22 t302.length co22, .slice Ao23 t305.length co23] 28 (0, 0)) (by refine zk ?_; refine blk_put (cs := #[.slice Ao19 t299.length co19, .slice Ao22 t302.length co22, .slice none 0 0]) ?_ 2 _ rfl; refine zk ?_; refine blk_put (cs := #[.slice Ao19 t299.length co19, .slice none 0 0, .slice none 0 0]) ?_ 1 _ rfl; refine zk ?_; refine blk_put (cs := #[.slice none 0 0, .slice none 0 0, .slice none 0 0]) ?_ 0 _ rfl; refine zk ?_; exact BK309.out) hb); replace HB := Aside0.mk (below_step (zB HB) hb); clear hb ho25; obtain ⟨Ao26, co26, eo26⟩ := Kd.R_slice HO312.out; subst eo26) | (go_at_call 31; (with_reducible refine (deliberationnet_Pairs.calls k _ _ t302 _ _ y310 true _ ?side1 ?side2 ?side3 ?side4 A3.out).mono ?_); (case side1 => repeat (first | exact (Kd.R_reads' HO304.out).2.2 | (with_reducible refine Kd.C_alloc ?_ _) | (with_reducible refine Kd.C_drewN ?_ _) | (with_reducible refine Kd.C_drew ?_))); (case side2 => exact (Kd.R_reads' HO304.out).2.1); (case side3 => repeat (first | exact (Kd.R_reads' HO312.out).2.2 | (with_reducible refine Kd.C_alloc ?_ _) | (with_reducible refine Kd.C_drewN ?_ _) | (with_reducible refine Kd.C_drew ?_))); (case side4 => exact (Kd.R_reads' HO312.out).2.1); rintro e w' ⟨rfl, ⟨nd, rfl⟩⟩; have hcz27_0 := zc BK309 0; have hcz27_1 := zc BK309 1; have hcz27_2 := zc BK309 2; have hfz27_0 := blk_frozen BK309.out 0; have hfz27_1 := blk_frozen BK309.out 1; have hfz27_2 := blk_frozen BK309.out 2; have p314 : 0 ≤ (0 : Int) := (by omega); have q314 : 0 < (t305.length : Int) := of_decide_eq_true (by first | (with_reducible assumption) | assumption); obtain ⟨ad314, A314_0, c314_0, e314, hx314_0, hl314_0, hi314_0⟩ := at_L2 (Kd.S_reads' HO307.out).2.2 0 p314 q314; cases e314; obtain ⟨ce314, hce314, hMe314, hcc314⟩ := Kd.S_get HO307.out [] 0 p314 (by first | exact q314 | exact of_decide_eq_true (by first | (with_reducible assumption) | assumption) | (have e_ := (Kd.S_reads' HO307.out).1; omega)); obtain ⟨ve314_0, rfl, ge314_0⟩ := hMe314; have hv314_0 := hcc314 0 _ rfl; rw [Nat.add_zero, show ((Kd.slice 42 k42)).sz = 1 from rfl, Nat.mul_one] at hv314_0; replace hv314_0 := Option.some.inj (hv314_0.symm.trans hx314_0); rw [hv314_0] at ge314_0; have HL314_0 := Aside0.mk (show Kd.R k42 42 _ _ _ _ (rd_L2 t305 0) from ge314_0); clear hv314_0 ge314_0; clear hcc314 hce314; have qi314 : (0 < t305.length) = True := eq_true (by omega); (try rw [show ((0 : Int)).toNat = 0 from rfl] at hx314_0); (try rw [Addr.add_zero'] at hx314_0); have HR314_0 := Aside0.mk hi314_0; have HC314_0 := Aside0.mk hl314_0; clear hi314_0 hl314_0; replace p314 := eq_true p314; replace q314 := eq_true q314; have hcz28_0 := zc BK295 0; have hcz28_1 := zc BK295 1; have hfz28_0 := blk_frozen BK295.out 0; have hfz28_1 := blk_frozen BK295.out 1) | (go_at_call 17; (with_reducible refine (enforce_Check.calls k 2 _ _ y292 1 _ _ t299 _ _ t302 _ _ t305 0 _ ?side1 ?side2 ?side3 ?side4 ?side5 ?side6 ?side7 ?side8 ?side9 A8.out).mono ?_); (case side1 => repeat (first | exact (Kd.R_reads' HO294.out).2.2 | (with_reducible refine Kd.C_alloc ?_ _) | (with_reducible refine Kd.C_drewN ?_ _) | (with_reducible refine Kd.C_drew ?_))); (case side2 => exact (Kd.R_reads' HO294.out).2.1); (case side3 => repeat (first | exact (Kd.R_reads' HO301.out).2.2 | (with_reducible refine Kd.C_alloc ?_ _) | (with_reducible refine Kd.C_drewN ?_ _) | (with_reducible refine Kd.C_drew ?_))); (case side4 => exact (Kd.R_reads' HO301.out).2.1); (case side5 => repeat (first | exact (Kd.R_reads' HO304.out).2.2 | (with_reducible refine Kd.C_alloc ?_ _) | (with_reducible refine Kd.C_drewN ?_ _) | (with_reducible refine Kd.C_drew ?_))); (case side6 => exact (Kd.R_reads' HO304.out).2.1); (case side7 => repeat (first | exact (Kd.S_reads' HO307.out).2.2 | (with_reducible refine Kd.C_alloc ?_ _) | (with_reducible refine Kd.C_drewN ?_ _) | (with_reducible refine Kd.C_drew ?_))); (case side8 => exact (Kd.S_reads' HO307.out).2.1); (case side9 => exact TabT.now HTab.out (zB HB)); rintro e w29 ⟨rfl, hb⟩; replace HO294 := Aside0.mk (Kd.R_below (zR HO294) hb); replace HO298 := Aside0.mk (Kd.R_below (zR HO298) hb); replace HO301 := Aside0.mk (Kd.R_below (zR HO301) hb); replace HO304 := Aside0.mk (Kd.R_below (zR HO304) hb); replace HO307 := Aside0.mk (Kd.S_below (zS HO307) hb); replace HO312 := Aside0.mk (Kd.R_below (zR HO312) hb); replace HL314_0 := Aside0.mk (Kd.R_below (zR HL314_0) hb); replace BK295 := Aside0.mk (zKb BK295 hb); replace BK309 := Aside0.mk (zKb BK309 hb); replace HR314_0 := Aside0.mk (Kd.C_below (zC HR314_0) hb); replace HB := Aside0.mk (below_step (zB HB) hb); (try clear hb); (try clear hb2); (try clear hk); (try clear hi))); go_ret; exact ⟨by first | rfl | (simp [errW_none, errW_some] <;> rfl) | (simp [*, errW_none, errW_some] <;> rfl), zB HB⟩
         · rw [if_neg c7] at H; have c7b0 : (((rd_L2 t305 0).length : Int) == 2) = false := beq_eq_false_iff_ne.mpr c7; have c7b1 : (((rd_L2 t305 0).length : Int) != 2) = true := bne_iff_ne.mpr c7; first | (refine absurd H ?_; simp; done) | (refine absurd H ?_; simp_all; done)
       · rw [if_neg c6] at H; exact absurd H (by simp)
     · rw [if_neg c5] at H; have c5b0 : ((t305.length : Int) == 1) = false := beq_eq_false_iff_ne.mpr c5; have c5b1 : ((t305.length : Int) != 1) = true := bne_iff_ne.mpr c5; first | (refine absurd H ?_; simp; done) | (refine absurd H ?_; simp_all; done)
   · replace c4 := Bool.eq_false_iff.mpr c4; subst c4; have H1 : (some false) = some true := by rw [if_neg (show ¬ (false = true) by decide)] at H; exact H
     clear H; have H := H1; clear H1; first | (refine absurd H ?_; simp; done) | (refine absurd H ?_; simp_all; done)
 · rw [if_neg c2] at H; have c2b0 : (t308 == 0) = false := beq_eq_false_iff_ne.mpr c2; have c2b1 : (t308 != 0) = true := bne_iff_ne.mpr c2; first | (refine absurd H ?_; simp; done) | (refine absurd H ?_; simp_all; done)
end Go.Proofs.YtjmdlmogdbhdhaaDoor.P
/- Plain facts: the sanity check 'awake' tells true. -/
namespace Go.Proofs.YtjmdlmogdbhdhaaDoor.P
open Go.RowKit Go.Proofs.YtjmdlmogdbhdhaaDoorW.PrintWords Go.Proofs.YtjmdlmogdbhdhaaDoorW.PrintLast Go.Proofs.YtjmdlmogdbhdhaaDoorW.PrintMore
theorem awake_dut : dut 2 [⟨1, 0⟩] [0] 1 = [[⟨0, 1⟩, ⟨1, 0⟩]] := by decide +kernel
theorem awake_chs : chs 2 [⟨1, 0⟩] [0] 1 = [⟨0, 1⟩] := by decide +kernel
theorem awake_ev : Ev (fun k => deliberationlaw21_awake.f k) true := by
  have hG : GoodG 2 [⟨1, 0⟩] := ⟨by omega, by omega, fun p hp => by obtain rfl := List.mem_singleton.1 hp; exact ⟨by decide, by decide, by decide, by decide⟩, by simp⟩
  have hs : SetL 2 [0] := ⟨fun x hx => by obtain rfl := List.mem_singleton.1 hx; omega, by simp⟩
  have hh : ¬ hopeless 2 [0] 1 := fun h => by cases h.1
  have h1 := Strict_ok hG hs (kind := 1) (.inl rfl)
  rw [if_neg hh] at h1
  have h2 := check_ok hG hs (kind := 1) (.inl rfl) hh
  rw [awake_chs, awake_dut] at h2
  rw [show (dut 2 [⟨1, 0⟩] [0] 1).map (chg [0]) = [⟨0, 1⟩] from awake_chs, awake_dut] at h1
  simp only [deliberationlaw21_awake.f, Option.bind_some]
  exact Ev.bind h1 (Ev.pos rfl (Ev.bind (pairs_same_ev _ (by simp)) (Ev.pos rfl (Ev.pos rfl (Ev.pos (by decide) (Ev.pos rfl (Ev.bind h2 (Ev.const _))))))))
end Go.Proofs.YtjmdlmogdbhdhaaDoor.P
namespace Go.Proofs.YtjmdlmogdbhdhaaDoor.P
open Go.RowKit Go.Proofs.YtjmdlmogdbhdhaaDoorW.PrintWords Go.Proofs.YtjmdlmogdbhdhaaDoorW.PrintLast Go.Proofs.YtjmdlmogdbhdhaaDoorW.PrintMore
attribute [local go_sem] max2_int min2_int max_two min_two max_three min_three max_four min_four
set_option linter.unusedVariables false
set_option linter.unusedSimpArgs false
def deliberationkeep_In.l0 : Nat → List Int → Int → Int → Int → Option (Bool)
 | 0, _, _, _, _ => none
 | k + 1, x0, x1, x7, x8 => if x8 < x7 then (if 0 ≤ x8 then (if x8 < (x0.length : Int) then (if (rd x0 x8) = x1 then (some true) else (deliberationkeep_In.l0 k x0 x1 x7 (wrap64 (x8 + 1)))) else (none)) else (none)) else (some false)
def deliberationkeep_In.f (k : Nat) (l0 : List Int) (a1 : Int) : Option (Bool) := deliberationkeep_In.l0 k l0 a1 (l0.length : Int) 0
set_option maxHeartbeats 8000000 in
set_option maxRecDepth 100000 in
theorem deliberationkeep_In.calls (k : Nat) (A0 : Option Addr) (c0 : Nat) (l0 : List Int) (a1 : Int) (r : Bool) (w : World) (hr0 : Kd.C (Kd.int .i64) w A0 l0.length l0) (hc0 : l0.length ≤ c0) (h : deliberationkeep_In.f k l0 a1 = some r) :
 Calls Tryd.prog 59 #[.slice A0 l0.length c0, .int .i64 a1] w fun e w' => e = .returned (.bool r) ∧ Drawn0 w w' := by
 have HR0 := Aside0.mk hr0; have HC0 := Aside0.mk hc0; clear hr0 hc0; have H : (deliberationkeep_In.l0 k l0 a1 (l0.length : Int) 0) = some r := h; clear h; have H' := Aside0.mk H; clear H; go_enter Tryd.func59, Tryd.ntmps59; go_wp2; go_loopg [8] k (fun kq v8 w' => ∃ (x8_1 : Int), v8 = .int .i64 x8_1 ∧ Aside0 (deliberationkeep_In.l0 kq l0 a1 (l0.length : Int) x8_1 = some r) ∧ Aside0 (kq ≤ k) ∧ Drawn0 w w')
 case atStart => exact ⟨(0), zv, H', ⟨Nat.le_refl _⟩, by repeat (first | exact Drawn0.refl _ | apply Drawn0.step)⟩
 case round =>
  clear H'; try clear p2
  obtain ⟨x8_1, rfl, HA, HK1, ⟨m1, rfl⟩⟩ := hrel; cases gk with
  | zero => exact absurd HA.out (by simp [deliberationkeep_In.l0])
  | succ k1 =>
   have H := HA.out; clear HA; simp only [deliberationkeep_In.l0] at H; by_cases c3 : x8_1 < (l0.length : Int)
   · rw [if_pos c3] at H; have c3b0 : decide (x8_1 < (l0.length : Int)) = true := decide_eq_true c3; clear c3; by_cases c4 : 0 ≤ x8_1
     · rw [if_pos c4] at H; have c4b0 : decide (0 ≤ x8_1) = true := decide_eq_true c4; clear c4; by_cases c5 : x8_1 < (l0.length : Int)
       · rw [if_pos c5] at H; have c5b0 : decide (x8_1 < (l0.length : Int)) = true := decide_eq_true c5; clear c5; by_cases c6 : (rd l0 x8_1) = a1
         · rw [if_pos c6] at H; have c6b0 : ((rd l0 x8_1) == a1) = true := beq_iff_eq.mpr c6; have c6b1 : ((rd l0 x8_1) != a1) = false := bne_eq_false_iff_eq.mpr c6; clear c6; obtain rfl := Option.some.inj H; have p708 : 0 ≤ (x8_1 : Int) := of_decide_eq_true (by first | (with_reducible assumption) | assumption); have q708 : x8_1 < (l0.length : Int) := of_decide_eq_true (by first | (with_reducible assumption) | assumption); obtain ⟨ad708, e708, hx708_0⟩ := Kd.at_int HR0.out x8_1 p708 q708; cases e708; replace p708 := eq_true p708; replace q708 := eq_true q708; go_wp2; go_ret; exact ⟨by first | rfl | (simp; done) | (simp [*]; done), by repeat (first | exact Drawn0.refl _ | apply Drawn0.step)⟩
         · rw [if_neg c6] at H; have c6b0 : ((rd l0 x8_1) == a1) = false := beq_eq_false_iff_ne.mpr c6; have c6b1 : ((rd l0 x8_1) != a1) = true := bne_iff_ne.mpr c6; have H' := Aside0.mk H; clear H; have p708 : 0 ≤ (x8_1 : Int) := of_decide_eq_true (by first | (with_reducible assumption) | assumption); have q708 : x8_1 < (l0.length : Int) := of_decide_eq_true (by first | (with_reducible assumption) | assumption); obtain ⟨ad708, e708, hx708_0⟩ := Kd.at_int HR0.out x8_1 p708 q708; cases e708; replace p708 := eq_true p708; replace q708 := eq_true q708; go_wp2; go_roundg k1
           case measure => have := HK1.out; omega
           case rel => exact ⟨(wrap64 (x8_1 + 1)), zv, H', ⟨by have := HK1.out; omega⟩, by repeat (first | exact Drawn0.refl _ | apply Drawn0.step)⟩
       · rw [if_neg c5] at H; exact absurd H (by simp)
     · rw [if_neg c4] at H; exact absurd H (by simp)
   · rw [if_neg c3] at H; have c3b0 : decide (x8_1 < (l0.length : Int)) = false := decide_eq_false c3; clear c3; obtain rfl := Option.some.inj H; go_wp2; go_ret; exact ⟨by first | rfl | (simp; done) | (simp [*]; done), by repeat (first | exact Drawn0.refl _ | apply Drawn0.step)⟩
end Go.Proofs.YtjmdlmogdbhdhaaDoor.P
namespace Go.Proofs.YtjmdlmogdbhdhaaDoor.P
open Go.RowKit Go.Proofs.YtjmdlmogdbhdhaaDoorW.PrintWords Go.Proofs.YtjmdlmogdbhdhaaDoorW.PrintLast Go.Proofs.YtjmdlmogdbhdhaaDoorW.PrintMore
attribute [local go_sem] max2_int min2_int max_two min_two max_three min_three max_four min_four
set_option linter.unusedVariables false
set_option linter.unusedSimpArgs false
def deliberationkeep_Inside.l0 : Nat → List Int → List Int → Int → Int → Option (Bool)
 | 0, _, _, _, _ => none
 | k + 1, x0, x1, x7, x8 => if x8 < x7 then (if 0 ≤ x8 then (if x8 < (x0.length : Int) then ((deliberationkeep_In.f k x1 (rd x0 x8)).bind fun t710 => (if t710 = true then (deliberationkeep_Inside.l0 k x0 x1 x7 (wrap64 (x8 + 1))) else (some false))) else (none)) else (none)) else (some true)
def deliberationkeep_Inside.f (k : Nat) (l0 : List Int) (l1 : List Int) : Option (Bool) := deliberationkeep_Inside.l0 k l0 l1 (l0.length : Int) 0
set_option maxHeartbeats 8000000 in
set_option maxRecDepth 100000 in
theorem deliberationkeep_Inside.calls (k : Nat) (A0 : Option Addr) (c0 : Nat) (l0 : List Int) (A1 : Option Addr) (c1 : Nat) (l1 : List Int) (r : Bool) (w : World) (hr0 : Kd.C (Kd.int .i64) w A0 l0.length l0) (hc0 : l0.length ≤ c0) (hr1 : Kd.C (Kd.int .i64) w A1 l1.length l1) (hc1 : l1.length ≤ c1) (h : deliberationkeep_Inside.f k l0 l1 = some r) :
 Calls Tryd.prog 30 #[.slice A0 l0.length c0, .slice A1 l1.length c1] w fun e w' => e = .returned (.bool r) ∧ Drawn0 w w' := by
 have HR0 := Aside0.mk hr0; have HC0 := Aside0.mk hc0; clear hr0 hc0; have HR1 := Aside0.mk hr1; have HC1 := Aside0.mk hc1; clear hr1 hc1; have H : (deliberationkeep_Inside.l0 k l0 l1 (l0.length : Int) 0) = some r := h; clear h; have H' := Aside0.mk H; clear H; go_enter Tryd.func30, Tryd.ntmps30; go_wp2; go_loopg [8] k (fun kq v8 w' => ∃ (x8_1 : Int), v8 = .int .i64 x8_1 ∧ Aside0 (deliberationkeep_Inside.l0 kq l0 l1 (l0.length : Int) x8_1 = some r) ∧ Aside0 (kq ≤ k) ∧ Drawn0 w w')
 case atStart => exact ⟨(0), zv, H', ⟨Nat.le_refl _⟩, by repeat (first | exact Drawn0.refl _ | apply Drawn0.step)⟩
 case round =>
  clear H'; try clear c1
  try clear p2
  obtain ⟨x8_1, rfl, HA, HK1, ⟨m1, rfl⟩⟩ := hrel; cases gk with
  | zero => exact absurd HA.out (by simp [deliberationkeep_Inside.l0])
  | succ k1 =>
   have H := HA.out; clear HA; simp only [deliberationkeep_Inside.l0] at H; by_cases c3 : x8_1 < (l0.length : Int)
   · rw [if_pos c3] at H; have c3b0 : decide (x8_1 < (l0.length : Int)) = true := decide_eq_true c3; clear c3; by_cases c4 : 0 ≤ x8_1
     · rw [if_pos c4] at H; have c4b0 : decide (0 ≤ x8_1) = true := decide_eq_true c4; clear c4; by_cases c5 : x8_1 < (l0.length : Int)
       · rw [if_pos c5] at H; have c5b0 : decide (x8_1 < (l0.length : Int)) = true := decide_eq_true c5; clear c5; replace H := Option.bind_eq_some_iff.mp H; obtain ⟨t710, A60, H⟩ := H; replace H : (if t710 = true then (deliberationkeep_Inside.l0 k1 l0 l1 (l0.length : Int) (wrap64 (x8_1 + 1))) else (some false)) = some r := H; have A6 := Aside0.mk A60; clear A60; by_cases c7 : t710 = true
         · subst c7; have H1 : (deliberationkeep_Inside.l0 k1 l0 l1 (l0.length : Int) (wrap64 (x8_1 + 1))) = some r := by rw [if_pos rfl] at H; exact H
           clear H; have H := H1; clear H1; have H' := Aside0.mk H; clear H; have p709 : 0 ≤ (x8_1 : Int) := of_decide_eq_true (by first | (with_reducible assumption) | assumption); have q709 : x8_1 < (l0.length : Int) := of_decide_eq_true (by first | (with_reducible assumption) | assumption); obtain ⟨ad709, e709, hx709_0⟩ := Kd.at_int HR0.out x8_1 p709 q709; cases e709; replace p709 := eq_true p709; replace q709 := eq_true q709; go_wp2_with (first | ((with_reducible refine gate_callee (f := 59) rfl ?_); refine zG (some 16) rfl Tryd.func59 #[.slice A1 l1.length c1, .int .i64 (rd l0 x8_1)] ?_; (with_reducible refine (deliberationkeep_In.calls k1 _ _ l1 (rd l0 x8_1) true _ ?side1 ?side2 A6.out).mono ?_); (case side1 => repeat (first | exact HR1.out | (with_reducible refine Kd.C_alloc ?_ _) | (with_reducible refine Kd.C_drewN ?_ _) | (with_reducible refine Kd.C_drew ?_))); (case side2 => exact HC1.out); rintro e w' ⟨rfl, ⟨nd, rfl⟩⟩; refine ⟨_, rfl, ?_⟩)); go_roundg k1
           case measure => have := HK1.out; omega
           case rel => exact ⟨(wrap64 (x8_1 + 1)), zv, H', ⟨by have := HK1.out; omega⟩, by repeat (first | exact Drawn0.refl _ | apply Drawn0.step)⟩
         · replace c7 := Bool.eq_false_iff.mpr c7; subst c7; have H1 : (some false) = some r := by rw [if_neg (show ¬ (false = true) by decide)] at H; exact H
           clear H; have H := H1; clear H1; obtain rfl := Option.some.inj H; have p709 : 0 ≤ (x8_1 : Int) := of_decide_eq_true (by first | (with_reducible assumption) | assumption); have q709 : x8_1 < (l0.length : Int) := of_decide_eq_true (by first | (with_reducible assumption) | assumption); obtain ⟨ad709, e709, hx709_0⟩ := Kd.at_int HR0.out x8_1 p709 q709; cases e709; replace p709 := eq_true p709; replace q709 := eq_true q709; go_wp2_with (first | ((with_reducible refine gate_callee (f := 59) rfl ?_); refine zG (some 16) rfl Tryd.func59 #[.slice A1 l1.length c1, .int .i64 (rd l0 x8_1)] ?_; (with_reducible refine (deliberationkeep_In.calls k1 _ _ l1 (rd l0 x8_1) false _ ?side1 ?side2 A6.out).mono ?_); (case side1 => repeat (first | exact HR1.out | (with_reducible refine Kd.C_alloc ?_ _) | (with_reducible refine Kd.C_drewN ?_ _) | (with_reducible refine Kd.C_drew ?_))); (case side2 => exact HC1.out); rintro e w' ⟨rfl, ⟨nd, rfl⟩⟩; refine ⟨_, rfl, ?_⟩)); go_ret; exact ⟨by first | rfl | (simp; done) | (simp [*]; done), by repeat (first | exact Drawn0.refl _ | apply Drawn0.step)⟩
       · rw [if_neg c5] at H; exact absurd H (by simp)
     · rw [if_neg c4] at H; exact absurd H (by simp)
   · rw [if_neg c3] at H; have c3b0 : decide (x8_1 < (l0.length : Int)) = false := decide_eq_false c3; clear c3; obtain rfl := Option.some.inj H; go_wp2; go_ret; exact ⟨by first | rfl | (simp; done) | (simp [*]; done), by repeat (first | exact Drawn0.refl _ | apply Drawn0.step)⟩
end Go.Proofs.YtjmdlmogdbhdhaaDoor.P
namespace Go.Proofs.YtjmdlmogdbhdhaaDoor.P
open Go.RowKit Go.Proofs.YtjmdlmogdbhdhaaDoorW.PrintWords Go.Proofs.YtjmdlmogdbhdhaaDoorW.PrintLast Go.Proofs.YtjmdlmogdbhdhaaDoorW.PrintMore
attribute [local go_sem] max2_int min2_int max_two min_two max_three min_three max_four min_four
set_option linter.unusedVariables false
set_option linter.unusedSimpArgs false
def deliberationnet_Some.l0 : Nat → Int → List Int → Int → List Int → Int → Option (List Int × Int)
 | 0, _, _, _, _, _ => none
 | k + 1, x1, x5, x6, x1000, x1001 => if x6 < x1 then ((deliberationkeep_Src_N.f x1000 x1001 3).bind fun bt454 => (if bt454.1 = 0 then (if x5.length < 17592186044416 then (deliberationnet_Some.l0 k x1 (x5 ++ [x6]) (wrap64 (x6 + 1)) x1000 bt454.2) else (none)) else (deliberationnet_Some.l0 k x1 x5 (wrap64 (x6 + 1)) x1000 bt454.2))) else (some (x5, x1001))
def deliberationnet_Some.f (k : Nat) (s0_0 : List Int) (s0_1 : Int) (a1 : Int) : Option (List Int × Int) := deliberationnet_Some.l0 k a1 ([] : List Int) 0 s0_0 s0_1
set_option maxHeartbeats 8000000 in
set_option maxRecDepth 100000 in
theorem deliberationnet_Some.calls (k : Nat) (g : Nat) (s0_0 : List Int) (s0_1 : Int) (a1 : Int) (r1 : List Int) (r2 : Int) (w0 w : World) (hI : IsS64 w0 w g s0_0 s0_1) (hB : Below w0.heap.size w0 w) (h : deliberationnet_Some.f k s0_0 s0_1 a1 = some (r1, r2)) :
 Calls Tryd.prog 15 #[.pointer (some ⟨g, 0, none⟩), .int .i64 a1] w fun e w' => ∃ v0_ : Value, e = .returned (v0_) ∧ Kd.R (Kd.int .i64) 3 w' w.heap.size (fun _ => True) v0_ r1 ∧ IsS64 w0 w' g s0_0 r2 ∧ Below w0.heap.size w0 w' ∧ KeepBut w w' g none := by
 have HI0 := Aside0.mk hI; have HK := Aside0.mk (KeepBut.refl w g none); have HL := Aside0.mk hB.size; clear hI; have HW0 := Aside0.mk hB.size; have HB := Aside0.mk hB; clear hB; have H : (deliberationnet_Some.l0 k a1 ([] : List Int) 0 s0_0 s0_1) = some (r1, r2) := h; clear h; have H' := Aside0.mk H; clear H; go_enter Tryd.func15, Tryd.ntmps15; go_wp2; go_loopg [5, 6] k (fun kq v5 v6 w' => ∃ (x5_1 : List Int) (x6_1 : Int) (x1001_1 : Int), v6 = .int .i64 x6_1 ∧ Aside0 (deliberationnet_Some.l0 kq a1 x5_1 x6_1 s0_0 x1001_1 = some (r1, r2)) ∧ Aside0 (kq ≤ k) ∧ Aside0 (Kd.R (Kd.int .i64) 3 w' w.heap.size (fun _ => True) v5 x5_1) ∧ Aside0 (IsS64 w0 w' g s0_0 x1001_1) ∧ Aside0 (KeepBut w w' g none) ∧ Aside0 (Below w0.heap.size w0 w'))
 case atStart => exact ⟨(([] : List Int)), (0), (s0_1), zv, H', ⟨Nat.le_refl _⟩, ⟨by first | exact Kd.R_nil _ _ _ _ _ | exact Kd.N_nil _ _ _ _ _ | exact Kd.V_nil _ _ _ _ _ | exact Kd.Q_nil _ _ _ _ _ | exact Kd.S_nil _ _ _ _ _ | exact Kd.R_nil _ _ _ 0 _⟩, ⟨by repeat (first | (with_reducible first | exact HI0.out | apply IsS64.alloc | apply IsS64.drewN | apply IsS64.drew | apply IsS64.set_1) | exact HI0.out)⟩, ⟨by repeat (first | (with_reducible first | exact HK.out | apply KeepBut.set_ | apply keep_drewN | apply keep_drew | apply keep_alloc) | exact HK.out)⟩, ⟨by repeat (first | (with_reducible first | exact HB.out | apply below_alloc | apply pw_below_drewN | apply below_drew1 | refine below_set ?_ (IsS64.ge HI0.out)) | exact HB.out)⟩⟩
 case round =>
  clear H'; try clear c1
  try clear p2
  obtain ⟨x5_1, x6_1, x1001_1, rfl, HA, HK1, HO_5, HI0, HK, HB⟩ := hrel; cases gk with
  | zero => exact absurd HA.out (by simp [deliberationnet_Some.l0])
  | succ k1 =>
   have H := HA.out; clear HA; simp only [deliberationnet_Some.l0] at H; by_cases c3 : x6_1 < a1
   · rw [if_pos c3] at H; have c3b0 : decide (x6_1 < a1) = true := decide_eq_true c3; clear c3; replace H := Option.bind_eq_some_iff.mp H; obtain ⟨⟨t454, t455⟩, A40, H⟩ := H; replace H : (if t454 = 0 then (if x5_1.length < 17592186044416 then (deliberationnet_Some.l0 k1 a1 (x5_1 ++ [x6_1]) (wrap64 (x6_1 + 1)) s0_0 t455) else (none)) else (deliberationnet_Some.l0 k1 a1 x5_1 (wrap64 (x6_1 + 1)) s0_0 t455)) = some (r1, r2) := H; have A4 := Aside0.mk A40; clear A40; by_cases c5 : t454 = 0
     · rw [if_pos c5] at H; have c5b0 : (t454 == 0) = true := beq_iff_eq.mpr c5; have c5b1 : (t454 != 0) = false := bne_eq_false_iff_eq.mpr c5; clear c5; by_cases c6 : x5_1.length < 17592186044416
       · rw [if_pos c6] at H; have LMc6 := Aside0.mk c6; clear c6; obtain ⟨y456, hy456⟩ : ∃ y_ : List Int, y_ = (x5_1 ++ [x6_1]) := ⟨_, rfl⟩; replace H : (deliberationnet_Some.l0 k1 a1 y456 (wrap64 (x6_1 + 1)) s0_0 t455) = some (r1, r2) := by first | (rw [hy456]; with_reducible exact H) | (have H2_ := (Option.bind_some _ _).symm.trans H; rw [hy456]; with_reducible exact H2_) | (have H2_ := (Option.bind_some _ _).symm.trans H; with_reducible exact H2_) | with_reducible exact H | (rw [hy456]; exact H) | exact H
         have Ny456 := Aside0.mk hy456; clear hy456; have H' := Aside0.mk H; clear H; go_wp2_with (first | ((with_reducible refine gate_callee (f := 16) rfl ?_); refine zG (some 13) rfl Tryd.func16 #[.pointer (some ⟨g, 0, none⟩), .int .i64 3] ?_; (with_reducible refine (deliberationkeep_Src_N.calls g s0_0 x1001_1 3 t454 t455 w0 _ ?side1 ?side2 A4.out).mono ?_); (case side1 => repeat (first | (with_reducible first | exact HI0.out | apply IsS64.alloc | apply IsS64.drewN | apply IsS64.drew | apply IsS64.set_1) | exact HI0.out)); (case side2 => repeat (first | (with_reducible first | exact HB.out | apply below_alloc | apply pw_below_drewN | apply below_drew1 | refine below_set ?_ (IsS64.ge HI0.out)) | exact HB.out)); rintro e w7 ⟨rfl, hi, hb, hk⟩; refine ⟨_, rfl, ?_⟩; replace HO_5 := Aside0.mk (Kd.R_mono (Kd.R_keep (IsS64.apart (show IsS64 w0 _ g s0_0 x1001_1 from by repeat (first | (with_reducible first | exact HI0.out | apply IsS64.alloc | apply IsS64.drewN | apply IsS64.drew | apply IsS64.set_1) | exact HI0.out)) (zR HO_5) (by decide)) hk (fun _ h => h.2)) (fun _ h => h.1)); replace HK := Aside0.mk (KeepBut.trans (by repeat (first | (with_reducible first | exact HK.out | apply KeepBut.set_ | apply keep_drewN | apply keep_drew | apply keep_alloc) | exact HK.out)) hk (.inl rfl)); replace HB := Aside0.mk (hb); replace HI0 := Aside0.mk (hi); (try clear hb); (try clear hb2); (try clear hk); (try clear hi)) | ((with_reducible refine gate_builtin (b := .append) (xs := #[.tmp 15, .tmp 17]) rfl ?_); at_builtin; refine Kd.R_append (Kd.int .i64) w.heap.size rfl (.tmp 15) (.tmp 17) 25 3 (.int .i64 0) 8 rfl Tryd.underlying25 info3 rfl (by decide) (by omega) u5 x5_1 x6_1 [.int .i64 x6_1] (fun _ => True) (fun _ => False) rfl rfl ?aP (fun _ hk => hk.elim) ?aF ?aO (Below.refl _ _) ?aS ?aL ?_; (case aP => exact rfl); (case aF => exact (fun _ _ => trivial)); (case aO => exact (zR HO_5)); (case aS => exact (keep_size (w := w) (g := g) (row := none) (by repeat (first | (with_reducible first | exact HK.out | apply KeepBut.set_ | apply keep_drewN | apply keep_drew | apply keep_alloc) | exact HK.out)))); (case aL => have := LMc6.out; omega); intro v457 w8 ho hb hg hat; rw [← Ny456.out] at ho; have HO458 := Aside0.mk (ho); replace HB := Aside0.mk (below_weaken (by repeat (first | (with_reducible first | exact HB.out | apply below_alloc | apply pw_below_drewN | apply below_drew1 | refine below_set ?_ (IsS64.ge HI0.out)) | exact HB.out)) HL.out hb); replace HI0 := Aside0.mk (IsS64.grown (by repeat (first | (with_reducible first | exact HI0.out | apply IsS64.alloc | apply IsS64.drewN | apply IsS64.drew | apply IsS64.set_1) | exact HI0.out)) hg (IsS64.own_ne HI0.out HO_5.out (by decide))); replace HK := Aside0.mk (KeepBut.trans (by repeat (first | (with_reducible first | exact HK.out | apply KeepBut.set_ | apply keep_drewN | apply keep_drew | apply keep_alloc) | exact HK.out)) (KeepBut.of_grown hg g) (Kd.R_base2 HO_5.out)); clear HO_5; clear ho hb hg hat)); go_roundg k1
         case measure => have := HK1.out; omega
         case rel => exact ⟨(y456), (wrap64 (x6_1 + 1)), (t455), zv, H', ⟨by have := HK1.out; omega⟩, ⟨zR HO458⟩, ⟨by repeat (first | (with_reducible first | exact HI0.out | apply IsS64.alloc | apply IsS64.drewN | apply IsS64.drew | apply IsS64.set_1) | exact HI0.out)⟩, ⟨by repeat (first | (with_reducible first | exact HK.out | apply KeepBut.set_ | apply keep_drewN | apply keep_drew | apply keep_alloc) | exact HK.out)⟩, ⟨by repeat (first | (with_reducible first | exact HB.out | apply below_alloc | apply pw_below_drewN | apply below_drew1 | refine below_set ?_ (IsS64.ge HI0.out)) | exact HB.out)⟩⟩
       · rw [if_neg c6] at H; exact absurd H (by simp)
     · rw [if_neg c5] at H; have c5b0 : (t454 == 0) = false := beq_eq_false_iff_ne.mpr c5; have c5b1 : (t454 != 0) = true := bne_iff_ne.mpr c5; have H' := Aside0.mk H; clear H; go_wp2_with (first | ((with_reducible refine gate_callee (f := 16) rfl ?_); refine zG (some 13) rfl Tryd.func16 #[.pointer (some ⟨g, 0, none⟩), .int .i64 3] ?_; (with_reducible refine (deliberationkeep_Src_N.calls g s0_0 x1001_1 3 t454 t455 w0 _ ?side1 ?side2 A4.out).mono ?_); (case side1 => repeat (first | (with_reducible first | exact HI0.out | apply IsS64.alloc | apply IsS64.drewN | apply IsS64.drew | apply IsS64.set_1) | exact HI0.out)); (case side2 => repeat (first | (with_reducible first | exact HB.out | apply below_alloc | apply pw_below_drewN | apply below_drew1 | refine below_set ?_ (IsS64.ge HI0.out)) | exact HB.out)); rintro e w9 ⟨rfl, hi, hb, hk⟩; refine ⟨_, rfl, ?_⟩; replace HO_5 := Aside0.mk (Kd.R_mono (Kd.R_keep (IsS64.apart (show IsS64 w0 _ g s0_0 x1001_1 from by repeat (first | (with_reducible first | exact HI0.out | apply IsS64.alloc | apply IsS64.drewN | apply IsS64.drew | apply IsS64.set_1) | exact HI0.out)) (zR HO_5) (by decide)) hk (fun _ h => h.2)) (fun _ h => h.1)); replace HK := Aside0.mk (KeepBut.trans (by repeat (first | (with_reducible first | exact HK.out | apply KeepBut.set_ | apply keep_drewN | apply keep_drew | apply keep_alloc) | exact HK.out)) hk (.inl rfl)); replace HB := Aside0.mk (hb); replace HI0 := Aside0.mk (hi); (try clear hb); (try clear hb2); (try clear hk); (try clear hi))); go_roundg k1
       case measure => have := HK1.out; omega
       case rel => exact ⟨(x5_1), (wrap64 (x6_1 + 1)), (t455), zv, H', ⟨by have := HK1.out; omega⟩, ⟨zR HO_5⟩, ⟨by repeat (first | (with_reducible first | exact HI0.out | apply IsS64.alloc | apply IsS64.drewN | apply IsS64.drew | apply IsS64.set_1) | exact HI0.out)⟩, ⟨by repeat (first | (with_reducible first | exact HK.out | apply KeepBut.set_ | apply keep_drewN | apply keep_drew | apply keep_alloc) | exact HK.out)⟩, ⟨by repeat (first | (with_reducible first | exact HB.out | apply below_alloc | apply pw_below_drewN | apply below_drew1 | refine below_set ?_ (IsS64.ge HI0.out)) | exact HB.out)⟩⟩
   · rw [if_neg c3] at H; have c3b0 : decide (x6_1 < a1) = false := decide_eq_false c3; clear c3; simp only [Option.some.injEq, Prod.mk.injEq] at H; obtain ⟨rfl, rfl⟩ := H; go_wp2; go_ret; exact ⟨_, by first | rfl | (simp [errW_none, errW_some] <;> rfl) | (simp [*, errW_none, errW_some] <;> rfl), by refine zkR ?_; exact HO_5.out, by repeat (first | (with_reducible first | exact HI0.out | apply IsS64.alloc | apply IsS64.drewN | apply IsS64.drew | apply IsS64.set_1) | exact HI0.out), by repeat (first | (with_reducible first | exact HB.out | apply below_alloc | apply pw_below_drewN | apply below_drew1 | refine below_set ?_ (IsS64.ge HI0.out)) | exact HB.out), by repeat (first | (with_reducible first | exact HK.out | apply KeepBut.set_ | apply keep_drewN | apply keep_drew | apply keep_alloc) | exact HK.out)⟩
end Go.Proofs.YtjmdlmogdbhdhaaDoor.P
