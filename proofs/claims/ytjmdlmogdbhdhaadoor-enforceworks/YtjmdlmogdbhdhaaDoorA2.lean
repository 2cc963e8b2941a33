import Derived.Test.YtjmdlmogdbhdhaaDoorProg
import Derived.Below
import Derived.Deep.Draws
import Derived.Deep.AppendLies
import Derived.Maps.AppendAt
import Derived.OwnWalk
import Derived.Laws.BytesArg
import Derived.Laws.MakeOwn
import Derived.Laws.OwnMore
import Derived.Deep.OwnRows
import Derived.Tactics
import Derived.Lib.ConvBytes
import Derived.Laws.Slices
import Derived.WalkKit
import Derived.KernelRfl
import Derived.RowKit3
import Derived.Deep.LoopGhost
import Derived.Deep.QuietTactic
import Derived.BigQuiet
import Derived.WideLaws
import Derived.Deep.DeepCutAuto
import Derived.Deep.CutBlock
import Derived.Deep.RegionHeld3
import Derived.Laws.Rows
import Derived.Lib.AppendStr
import Derived.ArgAppend
import Derived.Laws.IdiomCopy
import Derived.OrdersHeld
import Derived.Laws.BitsLemmas
import Derived.RowKit
import Derived.Laws.Bits64b
import Derived.Lib.TrailingZeros
import Derived.Test.YtjmdlmogdbhdhaaDoorRows
import Derived.ChangeSame
import Derived.ChangeVars
import Derived.JoinedOf
import Derived.ProofKit
import Derived.OpenShut
import Derived.ChangeOld
import Derived.SizedLaws
import Derived.LaidLaws
import Derived.Shelf.SlSortCmp.NoneTotal
import Derived.Maps.RangeRun
import Derived.Deep.DeepMust
import Derived.RegionTactic
import Derived.Test.YtjmdlmogdbhdhaaDoorA1
/- Short words for the printed walks: a fact is carried to the world at hand by the tactic that stands in the word's last argument. -/
namespace Go.Proofs.YtjmdlmogdbhdhaaDoor.P
open Go.RowKit Go.Proofs.YtjmdlmogdbhdhaaDoorW.PrintWords Go.Proofs.YtjmdlmogdbhdhaaDoorW.PrintLast Go.Proofs.YtjmdlmogdbhdhaaDoorW.PrintMore
theorem zK {P Q : Prop} (h : Aside0 P) (g : P → Q := by intro h_; (with_reducible repeat (first | refine blk_drewN ?_ _ | refine blk_drew ?_ | refine blk_alloc ?_ _)); exact h_) : Q := g h.out
theorem zR {P Q : Prop} (h : Aside0 P) (g : P → Q := by intro h_; (with_reducible repeat (first | apply Kd.R_alloc | apply Kd.R_drewN | apply Kd.R_drew)); exact h_) : Q := g h.out
theorem zS {P Q : Prop} (h : Aside0 P) (g : P → Q := by intro h_; (with_reducible repeat (first | apply Kd.S_alloc | apply Kd.S_drewN | apply Kd.S_drew)); exact h_) : Q := g h.out
theorem zN {P Q : Prop} (h : Aside0 P) (g : P → Q := by intro h_; (with_reducible repeat (first | apply Kd.N_alloc | apply Kd.N_drewN | apply Kd.N_drew)); exact h_) : Q := g h.out
theorem zV {P Q : Prop} (h : Aside0 P) (g : P → Q := by intro h_; (with_reducible repeat (first | apply Kd.V_alloc | apply Kd.V_drewN | apply Kd.V_drew)); exact h_) : Q := g h.out
theorem zQ {P Q : Prop} (h : Aside0 P) (g : P → Q := by intro h_; (with_reducible repeat (first | apply Kd.Q_alloc | apply Kd.Q_drewN | apply Kd.Q_drew)); exact h_) : Q := g h.out
theorem zC {P Q : Prop} (h : Aside0 P) (g : P → Q := by intro h_; repeat (first | (with_reducible exact h_) | (with_reducible refine Kd.C_alloc ?_ _) | (with_reducible refine Kd.C_drewN ?_ _) | (with_reducible refine Kd.C_drew ?_) | exact h_)) : Q := g h.out
theorem zB {P Q : Prop} (h : Aside0 P) (g : P → Q := by intro h_; repeat (first | (with_reducible first | exact h_ | apply below_alloc | apply pw_below_drewN | apply below_drew1 | refine below_set ?_ (Aside0.out (by assumption))) | exact h_)) : Q := g h.out
/-! ### the world a fact speaks of is led back -/
theorem zk {P Q : Prop} (h : P) (g : P → Q := by intro h_; (with_reducible repeat (first | refine blk_drewN ?_ _ | refine blk_drew ?_ | refine blk_alloc ?_ _)); exact h_) : Q := g h
theorem zkR {P Q : Prop} (h : P) (g : P → Q := by intro h_; (with_reducible repeat (first | apply Kd.R_alloc | apply Kd.R_drewN | apply Kd.R_drew)); exact h_) : Q := g h
theorem zkS {P Q : Prop} (h : P) (g : P → Q := by intro h_; (with_reducible repeat (first | apply Kd.S_alloc | apply Kd.S_drewN | apply Kd.S_drew)); exact h_) : Q := g h
theorem zkN {P Q : Prop} (h : P) (g : P → Q := by intro h_; (with_reducible repeat (first | apply Kd.N_alloc | apply Kd.N_drewN | apply Kd.N_drew)); exact h_) : Q := g h
theorem zkV {P Q : Prop} (h : P) (g : P → Q := by intro h_; (with_reducible repeat (first | apply Kd.V_alloc | apply Kd.V_drewN | apply Kd.V_drew)); exact h_) : Q := g h
theorem zkQ {P Q : Prop} (h : P) (g : P → Q := by intro h_; (with_reducible repeat (first | apply Kd.Q_alloc | apply Kd.Q_drewN | apply Kd.Q_drew)); exact h_) : Q := g h
theorem zCb {α : Type} {d : Kd α} {w W : World} {A : Option Addr} {n : Nat} {xs : List α} {Q : Prop} (h : Aside0 (d.C w A n xs)) (hb : Aside0 (Below w.heap.size w W)) (g : d.C W A n xs → Q := by intro h_; repeat (first | exact h_ | (with_reducible refine Kd.C_alloc ?_ _) | (with_reducible refine Kd.C_drewN ?_ _) | (with_reducible refine Kd.C_drew ?_))) : Q := g (Kd.C_below h.out hb.out)
theorem zW {P : Prop} {w W : World} {g : Nat} (hg : g = W.heap.size) (h : Aside0 P) (e : P → Below w.heap.size w W := by intro h_; exact zB ⟨h_⟩) : w.heap.size ≤ g := by rw [hg]; exact below_size (e h.out)
theorem zNl {W V : World} {g h : Nat} {o : Obj} (hg : h = W.heap.size) (b : Aside0 (V.heap[g]? = some o)) (e : V.heap[g]? = some o → W.heap[g]? = some o := by intro h_; exact zK ⟨h_⟩) : g ≠ h := by rw [hg]; exact Nat.ne_of_lt (blk_lt (e b.out))
theorem zNr {W V : World} {g h : Nat} {o : Obj} (hg : h = W.heap.size) (b : Aside0 (V.heap[g]? = some o)) (e : V.heap[g]? = some o → W.heap[g]? = some o := by intro h_; exact zK ⟨h_⟩) : h ≠ g := by rw [hg]; exact Nat.ne_of_gt (blk_lt (e b.out))
theorem zKb {V W w1 : World} {g : Nat} {o : Obj} (b : Aside0 (V.heap[g]? = some o)) (hb : Below W.heap.size W w1) (e : V.heap[g]? = some o → W.heap[g]? = some o := by intro h_; exact zK ⟨h_⟩) : w1.heap[g]? = some o := blk_below (e b.out) hb
theorem zc {w : World} {g : Nat} {t : TypeId} {cs : Array Value} {v : Value} (h : Aside0 (w.heap[g]? = some (.cells cs t (0, 0)))) (i : Nat) (e : cs[i]? = some v := by rfl) : w.cell? ⟨g, i, none⟩ = some v := (blk_cell h.out i).trans e
theorem zv {P : Prop} (h : P := by first | rfl | (simp; done) | (simp [*]; done)) : P := h
section
variable {P : Program} {ops : Array Oper} {rest : List Oper} {Q : Exit → Act → World → Prop} {md : Region.Mode} {S : World → Prop} {ds : List Nat} {T : Bool × List (List Nat × List Nat)} {B : List Nat}
theorem zG {oi : Oper} {a : Act} {w : World} (N : Option Tmp) (hd : oi.dst = N) {f : FuncId} {fn : Func} {ax : Array Operand} {ts : Array TypeId} (hf : P.funcs[f]? = some fn) (args : Array Value) (h : Calls P f args w fun e w' => ∃ v, e = .returned v ∧ wpList P ops Q rest (a.put N v) w') (hg : oi.guard = none := by rfl) (hname : (fn.name == "runtime.NumGoroutine") = false := by kernel_rfl) (hb : fn.body.isSome = true := by rfl) (hop : oi.op = .call { callee := .value (.func f), args := ax, argTypes := ts } := by rfl) (hargs : ax.map a.eval = args := by (try simp only [List.map_toArray, List.map_cons, List.map_nil]); first | done | rfl | (simp only [List.length_drop, List.length_take]; rfl)) : wpList P ops Q (oi :: rest) a w := goesL_ N hd hg hf hname hb args hop hargs h
theorem zX {o : Oper} {a : Act} {W : World} {N : Tmp} {cs : Array Value} {t : TypeId} (h : ∀ g, g = W.heap.size → ∀ w1, w1.heap[g]? = some (.cells cs t (0, 0)) → Below W.heap.size W w1 → wpList P ops Q rest (a.put o.dst (.pointer (some ⟨g, 0, none⟩))) w1) (hd : o.dst = some N := by rfl) (hg : o.guard = none := by rfl) (hr : (execOp a.eval o).run P W = .ok (.value (.pointer (some ⟨W.heap.size, 0, none⟩))) (W.alloc (.cells cs t (0, 0))) := by first | (go_simp; done) | (go_simp; rfl)) : wpList P ops Q (o :: rest) a W := box_event hg hd hr h
theorem zpu {i : Nat} {n : Tmp} {oi : Oper} {v : Value} {fuel : Nat} {l : Array Bool} {a a' : Act} {w : World} (l' : Array Bool) (HT : Aside0 (rtab md ops = T)) (h : wpAnyLast P md ops Q S ds fuel l' a' w) (hi : ops[i]? = some oi := by rfl) (hN : oi.dst = some n := by rfl) (hc : anyT T l.toList l'.toList i = true := by kernel_rfl) (hQ : ∀ c a w, Q (.panic c) (a.put oi.dst v) w → Q (.panic c) a w := by exact fun _ _ _ h => h) (hy : Yields P ops oi v a := by exact Or.inl ⟨by rfl, by intro w'; go_simp; with_reducible rfl⟩) (ha : a.put (some n) v = a' := by simp only [Act.put, List.setIfInBounds_toArray, List.set_cons_zero, List.set_cons_succ, i64_w, i32_w]; rfl) : wpAnyLast P md ops Q S ds (fuel + 1) l a w := pure_ l' hi hN (any_of HT.out hc) hQ hy ha h
theorem zpn {i : Nat} {n : Tmp} {oi : Oper} {fuel : Nat} {l : Array Bool} {a a' : Act} {w : World} (l' : Array Bool) (HT : Aside0 (rtab md ops = T)) (h : wpAnyLast P md ops Q S ds fuel l' a' w) (hi : ops[i]? = some oi := by rfl) (hN : oi.dst = some n := by rfl) (hc : anyT T l.toList l'.toList i = true := by kernel_rfl) (hQ : ∀ c a w, Q (.panic c) (a.put oi.dst undef) w → Q (.panic c) a w := by exact fun _ _ _ h => h) (hy : Yields P ops oi undef a := by exact Or.inr ⟨by rfl, rfl⟩) (ha : a.put (some n) undef = a' := by simp only [Act.put, List.setIfInBounds_toArray, List.set_cons_zero, List.set_cons_succ, i64_w, i32_w]; rfl) : wpAnyLast P md ops Q S ds (fuel + 1) l a w := pure_ l' hi hN (any_of HT.out hc) hQ hy ha h
theorem zt1 {i : Nat} {n : Tmp} {oi : Oper} {v : Value} {fuel : Nat} {l : Array Bool} {a a' : Act} {w : World} (l' : Array Bool) (HT : Aside0 (rtab md ops = T)) (HW : Aside0 (waitsOk T.2 B = true)) (hS : S w) (h : wpAnyLast P md ops Q S ds fuel l' a' w) (hi : ops[i]? = some oi := by rfl) (hN : oi.dst = some n := by rfl) (hc : takeW T B ds l.toList l'.toList i = true := by kernel_rfl) (hQ : ∀ c a w, Q (.panic c) (a.put oi.dst v) w → Q (.panic c) a w := by exact fun _ _ _ h => h) (hy : YieldsIf P ops S oi v a := by exact Or.inl ⟨by rfl, by rintro w' s0; go_simp; with_reducible rfl⟩) (ha : a.put (some n) v = a' := by simp only [Act.put, List.setIfInBounds_toArray, List.set_cons_zero, List.set_cons_succ, i64_w, i32_w]; rfl) : wpAnyLast P md ops Q S ds (fuel + 1) l a w := take_ l' hi hN (take_ofW HT.out HW.out hc) hQ hy hS ha h
theorem zt2 {i : Nat} {n : Tmp} {oi : Oper} {v : Value} {fuel : Nat} {l : Array Bool} {a a' : Act} {w : World} (l' : Array Bool) (HT : Aside0 (rtab md ops = T)) (HW : Aside0 (waitsOk T.2 B = true)) (hS : S w) (h : wpAnyLast P md ops Q S ds fuel l' a' w) (hi : ops[i]? = some oi := by rfl) (hN : oi.dst = some n := by rfl) (hc : takeW T B ds l.toList l'.toList i = true := by kernel_rfl) (hQ : ∀ c a w, Q (.panic c) (a.put oi.dst v) w → Q (.panic c) a w := by exact fun _ _ _ h => h) (hy : YieldsIf P ops S oi v a := by exact Or.inl ⟨by rfl, by rintro w' ⟨s0, s1⟩; go_simp; with_reducible rfl⟩) (ha : a.put (some n) v = a' := by simp only [Act.put, List.setIfInBounds_toArray, List.set_cons_zero, List.set_cons_succ, i64_w, i32_w]; rfl) : wpAnyLast P md ops Q S ds (fuel + 1) l a w := take_ l' hi hN (take_ofW HT.out HW.out hc) hQ hy hS ha h
theorem zt3 {i : Nat} {n : Tmp} {oi : Oper} {v : Value} {fuel : Nat} {l : Array Bool} {a a' : Act} {w : World} (l' : Array Bool) (HT : Aside0 (rtab md ops = T)) (HW : Aside0 (waitsOk T.2 B = true)) (hS : S w) (h : wpAnyLast P md ops Q S ds fuel l' a' w) (hi : ops[i]? = some oi := by rfl) (hN : oi.dst = some n := by rfl) (hc : takeW T B ds l.toList l'.toList i = true := by kernel_rfl) (hQ : ∀ c a w, Q (.panic c) (a.put oi.dst v) w → Q (.panic c) a w := by exact fun _ _ _ h => h) (hy : YieldsIf P ops S oi v a := by exact Or.inl ⟨by rfl, by rintro w' ⟨s0, s1, s2⟩; go_simp; with_reducible rfl⟩) (ha : a.put (some n) v = a' := by simp only [Act.put, List.setIfInBounds_toArray, List.set_cons_zero, List.set_cons_succ, i64_w, i32_w]; rfl) : wpAnyLast P md ops Q S ds (fuel + 1) l a w := take_ l' hi hN (take_ofW HT.out HW.out hc) hQ hy hS ha h
theorem zt4 {i : Nat} {n : Tmp} {oi : Oper} {v : Value} {fuel : Nat} {l : Array Bool} {a a' : Act} {w : World} (l' : Array Bool) (HT : Aside0 (rtab md ops = T)) (HW : Aside0 (waitsOk T.2 B = true)) (hS : S w) (h : wpAnyLast P md ops Q S ds fuel l' a' w) (hi : ops[i]? = some oi := by rfl) (hN : oi.dst = some n := by rfl) (hc : takeW T B ds l.toList l'.toList i = true := by kernel_rfl) (hQ : ∀ c a w, Q (.panic c) (a.put oi.dst v) w → Q (.panic c) a w := by exact fun _ _ _ h => h) (hy : YieldsIf P ops S oi v a := by exact Or.inl ⟨by rfl, by rintro w' ⟨s0, s1, s2, s3⟩; go_simp; with_reducible rfl⟩) (ha : a.put (some n) v = a' := by simp only [Act.put, List.setIfInBounds_toArray, List.set_cons_zero, List.set_cons_succ, i64_w, i32_w]; rfl) : wpAnyLast P md ops Q S ds (fuel + 1) l a w := take_ l' hi hN (take_ofW HT.out HW.out hc) hQ hy hS ha h
theorem zt5 {i : Nat} {n : Tmp} {oi : Oper} {v : Value} {fuel : Nat} {l : Array Bool} {a a' : Act} {w : World} (l' : Array Bool) (HT : Aside0 (rtab md ops = T)) (HW : Aside0 (waitsOk T.2 B = true)) (hS : S w) (h : wpAnyLast P md ops Q S ds fuel l' a' w) (hi : ops[i]? = some oi := by rfl) (hN : oi.dst = some n := by rfl) (hc : takeW T B ds l.toList l'.toList i = true := by kernel_rfl) (hQ : ∀ c a w, Q (.panic c) (a.put oi.dst v) w → Q (.panic c) a w := by exact fun _ _ _ h => h) (hy : YieldsIf P ops S oi v a := by exact Or.inl ⟨by rfl, by rintro w' ⟨s0, s1, s2, s3, s4⟩; go_simp; with_reducible rfl⟩) (ha : a.put (some n) v = a' := by simp only [Act.put, List.setIfInBounds_toArray, List.set_cons_zero, List.set_cons_succ, i64_w, i32_w]; rfl) : wpAnyLast P md ops Q S ds (fuel + 1) l a w := take_ l' hi hN (take_ofW HT.out HW.out hc) hQ hy hS ha h
theorem zt6 {i : Nat} {n : Tmp} {oi : Oper} {v : Value} {fuel : Nat} {l : Array Bool} {a a' : Act} {w : World} (l' : Array Bool) (HT : Aside0 (rtab md ops = T)) (HW : Aside0 (waitsOk T.2 B = true)) (hS : S w) (h : wpAnyLast P md ops Q S ds fuel l' a' w) (hi : ops[i]? = some oi := by rfl) (hN : oi.dst = some n := by rfl) (hc : takeW T B ds l.toList l'.toList i = true := by kernel_rfl) (hQ : ∀ c a w, Q (.panic c) (a.put oi.dst v) w → Q (.panic c) a w := by exact fun _ _ _ h => h) (hy : YieldsIf P ops S oi v a := by exact Or.inl ⟨by rfl, by rintro w' ⟨s0, s1, s2, s3, s4, s5⟩; go_simp; with_reducible rfl⟩) (ha : a.put (some n) v = a' := by simp only [Act.put, List.setIfInBounds_toArray, List.set_cons_zero, List.set_cons_succ, i64_w, i32_w]; rfl) : wpAnyLast P md ops Q S ds (fuel + 1) l a w := take_ l' hi hN (take_ofW HT.out HW.out hc) hQ hy hS ha h
theorem zt7 {i : Nat} {n : Tmp} {oi : Oper} {v : Value} {fuel : Nat} {l : Array Bool} {a a' : Act} {w : World} (l' : Array Bool) (HT : Aside0 (rtab md ops = T)) (HW : Aside0 (waitsOk T.2 B = true)) (hS : S w) (h : wpAnyLast P md ops Q S ds fuel l' a' w) (hi : ops[i]? = some oi := by rfl) (hN : oi.dst = some n := by rfl) (hc : takeW T B ds l.toList l'.toList i = true := by kernel_rfl) (hQ : ∀ c a w, Q (.panic c) (a.put oi.dst v) w → Q (.panic c) a w := by exact fun _ _ _ h => h) (hy : YieldsIf P ops S oi v a := by exact Or.inl ⟨by rfl, by rintro w' ⟨s0, s1, s2, s3, s4, s5, s6⟩; go_simp; with_reducible rfl⟩) (ha : a.put (some n) v = a' := by simp only [Act.put, List.setIfInBounds_toArray, List.set_cons_zero, List.set_cons_succ, i64_w, i32_w]; rfl) : wpAnyLast P md ops Q S ds (fuel + 1) l a w := take_ l' hi hN (take_ofW HT.out HW.out hc) hQ hy hS ha h
theorem zt8 {i : Nat} {n : Tmp} {oi : Oper} {v : Value} {fuel : Nat} {l : Array Bool} {a a' : Act} {w : World} (l' : Array Bool) (HT : Aside0 (rtab md ops = T)) (HW : Aside0 (waitsOk T.2 B = true)) (hS : S w) (h : wpAnyLast P md ops Q S ds fuel l' a' w) (hi : ops[i]? = some oi := by rfl) (hN : oi.dst = some n := by rfl) (hc : takeW T B ds l.toList l'.toList i = true := by kernel_rfl) (hQ : ∀ c a w, Q (.panic c) (a.put oi.dst v) w → Q (.panic c) a w := by exact fun _ _ _ h => h) (hy : YieldsIf P ops S oi v a := by exact Or.inl ⟨by rfl, by rintro w' ⟨s0, s1, s2, s3, s4, s5, s6, s7⟩; go_simp; with_reducible rfl⟩) (ha : a.put (some n) v = a' := by simp only [Act.put, List.setIfInBounds_toArray, List.set_cons_zero, List.set_cons_succ, i64_w, i32_w]; rfl) : wpAnyLast P md ops Q S ds (fuel + 1) l a w := take_ l' hi hN (take_ofW HT.out HW.out hc) hQ hy hS ha h
theorem zt9 {i : Nat} {n : Tmp} {oi : Oper} {v : Value} {fuel : Nat} {l : Array Bool} {a a' : Act} {w : World} (l' : Array Bool) (HT : Aside0 (rtab md ops = T)) (HW : Aside0 (waitsOk T.2 B = true)) (hS : S w) (h : wpAnyLast P md ops Q S ds fuel l' a' w) (hi : ops[i]? = some oi := by rfl) (hN : oi.dst = some n := by rfl) (hc : takeW T B ds l.toList l'.toList i = true := by kernel_rfl) (hQ : ∀ c a w, Q (.panic c) (a.put oi.dst v) w → Q (.panic c) a w := by exact fun _ _ _ h => h) (hy : YieldsIf P ops S oi v a := by exact Or.inl ⟨by rfl, by rintro w' ⟨s0, s1, s2, s3, s4, s5, s6, s7, s8⟩; go_simp; with_reducible rfl⟩) (ha : a.put (some n) v = a' := by simp only [Act.put, List.setIfInBounds_toArray, List.set_cons_zero, List.set_cons_succ, i64_w, i32_w]; rfl) : wpAnyLast P md ops Q S ds (fuel + 1) l a w := take_ l' hi hN (take_ofW HT.out HW.out hc) hQ hy hS ha h
theorem znn {fuel : Nat} {l : Array Bool} {a a' : Act} {w : World} (n : Tmp) {v : Value} (h : wpAnyLast P md ops Q S ds fuel l a' w) (ha : Act.put a (some n) v = a' := by simp only [Act.put, List.setIfInBounds_toArray, List.set_cons_zero, List.set_cons_succ, i64_w, i32_w]; rfl) : wpAnyLast P md ops Q S ds fuel l (Act.put a (some n) v) w := norm_ ha h
theorem znj {fuel : Nat} {l : Array Bool} {a a' : Act} {w : World} (h : wpAnyLast P md ops Q S ds fuel l a' w) (ha : a = a' := by first | (simp only [putAll, Act.put, List.setIfInBounds_toArray, List.set_cons_zero, List.set_cons_succ]; done) | (simp only [putAll, Act.put, List.setIfInBounds_toArray, List.set_cons_zero, List.set_cons_succ]; rfl)) : wpAnyLast P md ops Q S ds fuel l a w := norm_ ha h
theorem znb {fuel : Nat} {l : Array Bool} {a a' : Act} {w : World} (h : wpAnyLast P md ops Q S ds fuel l a' w) (ha : a = a' := by simp only [putAll, Act.put, List.setIfInBounds_toArray, List.set_cons_zero, List.set_cons_succ]; rfl) : wpAnyLast P md ops Q S ds fuel l a w := norm_ ha h
end
end Go.Proofs.YtjmdlmogdbhdhaaDoor.P
namespace Go.Proofs.YtjmdlmogdbhdhaaDoor.P
open Go.RowKit Go.Proofs.YtjmdlmogdbhdhaaDoorW.PrintWords Go.Proofs.YtjmdlmogdbhdhaaDoorW.PrintLast Go.Proofs.YtjmdlmogdbhdhaaDoorW.PrintMore
attribute [local go_sem] max2_int min2_int max_two min_two max_three min_three max_four min_four
set_option linter.unusedVariables false
set_option linter.unusedSimpArgs false
def errW : Option Int → Value
 | none => .nilIface
 | some c => .iface 0 (.int .i64 c)
theorem errW_none : errW none = .nilIface := rfl
theorem errW_some (c : Int) : errW (some c) = .iface 0 (.int .i64 c) := rfl
theorem info3 : (Tryd.prog.info? 3).map (fun i => (i.zero, i.size, i.bytes)) = some (some (.int .i64 0), 1, 8) := by kernel_rfl
theorem info22 : (Tryd.prog.info? 22).map (fun i => (i.zero, i.size, i.bytes)) = some (some (.slice none 0 0), 1, 24) := by kernel_rfl
theorem info42 : (Tryd.prog.info? 42).map (fun i => (i.zero, i.size, i.bytes)) = some (some (.agg #[(.int .i64 0), (.int .i64 0)]), 2, 16) := by kernel_rfl
theorem info76 : (Tryd.prog.info? 76).map (fun i => (i.zero, i.size, i.bytes)) = some (some (.int .u64 0), 1, 8) := by kernel_rfl
-- the values' own types
structure S42 where
 f0 : Int
 f1 : Int
def z42 : S42 := ⟨(0 : Int), (0 : Int)⟩
def k42 : Kd S42 := Kd.iso (Kd.pair (Kd.int .i64) (Kd.int .i64)) (fun x : S42 => (x.f0, x.f1))
theorem k42_heap : Kd.Heap k42 := Kd.heap_iso _ (Kd.heap_pair (Kd.heap_int .i64) (Kd.heap_int .i64))
theorem k42_open {w : World} {x : S42} {cs : List Value} (h : k42.K w x cs) : cs = [.int .i64 x.f0, .int .i64 x.f1] := by
 obtain ⟨_, _, rfl, rfl, rfl⟩ := h; exact rfl
theorem k42_openM {w : World} {base : Nat} {ok : Nat → Prop} {x : S42} {cs : List Value} (h : k42.M w base ok x cs) : cs = [.int .i64 x.f0, .int .i64 x.f1] := by
 obtain ⟨_, _, rfl, rfl, rfl⟩ := h; exact rfl
theorem k42_mk (w : World) (x : S42)  : k42.K w x [.int .i64 x.f0, .int .i64 x.f1] := ⟨[.int .i64 x.f0], [.int .i64 x.f1], rfl, rfl, rfl⟩
theorem k42_mkM (w : World) (base : Nat) (ok : Nat → Prop) (x : S42)  : k42.M w base ok x [.int .i64 x.f0, .int .i64 x.f1] := ⟨[.int .i64 x.f0], [.int .i64 x.f1], rfl, rfl, rfl⟩
theorem k42_mkF (W : World) (ok : Nat → Prop) (x : S42) : Kd.FK k42 W ok x [.int .i64 x.f0, .int .i64 x.f1] := fun W2 _ => k42_mk W2 x
def rd_T42 (xs : List S42) (i : Int) : S42 := xs.getD i.toNat z42
theorem at_T42 {w : World} {A : Option Addr} {n : Nat} {xs : List S42} (h : Kd.C k42 w A n xs) (i : Int) (h0 : 0 ≤ i) (h1 : i < n) : ∃ ad , A = some ad ∧ w.cell? (ad.add (i.toNat * 2)) = some (.int .i64 (rd_T42 xs i).f0) ∧ w.cell? ⟨(ad.add (i.toNat * 2)).block, (ad.add (i.toNat * 2)).off + 1, none⟩ = some (.int .i64 (rd_T42 xs i).f1) := by
 obtain ⟨ad, c, e, _, hK, hc0⟩ := Kd.C_get h z42 i h0 h1; have hc : ∀ j u, c[j]? = some u → w.cell? (ad.add (i.toNat * 2 + j)) = some u := hc0; obtain rfl := k42_open hK; exact ⟨ad, e, hc 0 _ rfl, by rw [← add_field _ _ 1 (by omega)]; exact hc 1 _ rfl⟩
def rd_L2 (xs : List (List S42)) (i : Int) : (List S42) := xs.getD i.toNat ([] : List S42)
theorem at_L2 {w : World} {A : Option Addr} {n : Nat} {xs : List (List S42)} (h : Kd.C (Kd.slice 42 k42) w A n xs) (i : Int) (h0 : 0 ≤ i) (h1 : i < n) : ∃ ad A0 c0, A = some ad ∧ w.cell? (ad.add i.toNat) = some (.slice A0 (rd_L2 xs i).length c0) ∧ (rd_L2 xs i).length ≤ c0 ∧ k42.C w A0 (rd_L2 xs i).length (rd_L2 xs i) := by
 obtain ⟨ad, c, e, _, hK, hc0⟩ := Kd.C_get h ([] : List S42) i h0 h1; have hc : ∀ j u, c[j]? = some u → w.cell? (ad.add (i.toNat * 1 + j)) = some u := hc0; obtain ⟨A0, c0, rfl, l0, g0⟩ := hK; exact ⟨ad, A0, c0, e, by have hq := hc 0 _ rfl; rwa [Nat.mul_one, Nat.add_zero] at hq, l0, g0⟩
end Go.Proofs.YtjmdlmogdbhdhaaDoor.P
namespace Go.Proofs.YtjmdlmogdbhdhaaDoor.P
open Go.RowKit Go.Proofs.YtjmdlmogdbhdhaaDoorW.PrintWords Go.Proofs.YtjmdlmogdbhdhaaDoorW.PrintLast Go.Proofs.YtjmdlmogdbhdhaaDoorW.PrintMore
attribute [local go_sem] max2_int min2_int max_two min_two max_three min_three max_four min_four
set_option linter.unusedVariables false
set_option linter.unusedSimpArgs false
/-- The library's table lies in its variable. -/
def TabT (w : World) : Prop := ∀ j, j < Lib.deBruijn64tab.length → w.cell? ⟨0, j, none⟩ = some (.int .u8 (Lib.deBruijn64tab.getD j 0))
theorem TabT.now {w0 w1 : World} (h : TabT w0) (hb : Below w0.heap.size w0 w1) : TabT w1 := fun j hj => (hb.cell (World.block_lt_of_cell? w0 _ (h j hj))).trans (h j hj)
def bits_TrailingZeros64.f (a0 : Int) : Option Int := if 0 ≤ a0 ∧ a0.toNat < 2 ^ 64 then some (Lib.ctz 64 a0.toNat) else none
set_option maxHeartbeats 1000000 in
theorem tz64_core (x k idx : Nat) (w : World) (hx0 : ((x : Int) == 0) = false)
 (key : IntKind.u64.wrap (bits BinOp.and IntKind.u64 (x : Int) (IntKind.u64.wrap (-(x : Int))) * 285870213051353865) / 288230376151711744 = (idx : Int))
 (hi : idx < 64) (hk : k < 64) (hcell : w.cell? ⟨0, idx, none⟩ = some (.int .u8 k)) :
 Calls Tryd.prog 78 #[.int .u64 x] w fun e w' => e = .returned (.int .i64 k) ∧ Drawn0 w w' := by
 go_enter Tryd.func78, Tryd.ntmps78; go_wp2_with (simp only [key]); go_ret; exact ⟨rfl, Drawn0.refl _⟩
theorem tz64_zero (w : World) :
 Calls Tryd.prog 78 #[.int .u64 0] w fun e w' => e = .returned (.int .i64 64) ∧ Drawn0 w w' := by
 go_enter Tryd.func78, Tryd.ntmps78; go_wp2; go_ret; exact ⟨rfl, Drawn0.refl _⟩
theorem tz64_key (x a : Nat) (hx : x < 18446744073709551616) (hx0 : x ≠ 0) (hlow : x &&& (18446744073709551616 - x) = a) :
 IntKind.u64.wrap (bits BinOp.and IntKind.u64 (x : Int) (IntKind.u64.wrap (-(x : Int))) * 285870213051353865) / 288230376151711744 = ((a * 285870213051353865 % 18446744073709551616 / 288230376151711744 : Nat) : Int) := by
 have e1 : IntKind.u64.wrap (-(x : Int)) = ((18446744073709551616 - x : Nat) : Int) := by rw [IntKind.wrap_u64]; omega
 rw [e1, bits_and_u64_nat x _ hx (by omega), hlow, IntKind.wrap_u64]; omega
theorem bits_TrailingZeros64.calls (a0 : Int) (r : Int) (w : World) (hT : TabT w) (h : bits_TrailingZeros64.f a0 = some r) :
 Calls Tryd.prog 78 #[.int .u64 a0] w fun e w' => e = .returned (.int .i64 r) ∧ Drawn0 w w' := by
 unfold bits_TrailingZeros64.f at h; split at h
 case isFalse => exact absurd h (by simp)
 case isTrue hc =>
 obtain ⟨h0, h1⟩ := hc; obtain ⟨x, rfl⟩ := Int.eq_ofNat_of_zero_le h0; simp only [Option.some.injEq, Int.toNat_natCast] at h h1; subst h; by_cases hx0 : x = 0
 · subst hx0; exact tz64_zero w
 · have hx : x < 18446744073709551616 := by simpa using h1
   obtain ⟨hlow, hk⟩ := Lib.lowest_bit 64 x hx0 hx; obtain ⟨hi, htab⟩ := Lib.deBruijn64_at _ hk; have hcell := hT _ hi; rw [htab] at hcell; exact tz64_core x _ _ w (by simp; omega) (tz64_key x _ hx hx0 hlow) hi hk hcell
end Go.Proofs.YtjmdlmogdbhdhaaDoor.P
/- The library's table: what the row's condition on the package variable math/bits.deBruijn64tab says of its cells; and a state in which it holds. -/
namespace Go.Proofs.YtjmdlmogdbhdhaaDoor.P
open Go.ChangeShapes Go.WideShapes Go.RowKit
theorem own : ownKnob Tryd.prog.godebug = none := by kernel_rfl
theorem laidOut : laidOutB Tryd.prog = true := by kernel_rfl
theorem gTab : Tryd.prog.globalNamed "math/bits.deBruijn64tab" = some 0 := by kernel_rfl
theorem gTabType : (Tryd.prog.globals[0]?).map (·.type) = some 115 := by kernel_rfl
theorem cells115 : Tryd.prog.cellsOf 115 = 64 := by kernel_rfl
theorem cells5 : Tryd.prog.cellsOf 5 = 1 := by kernel_rfl
theorem int_of_trod {H : Type} {enc : TypeId × Value → H} {P : Program} {w : World} {base : Nat} {sp : Nat → Bool} {held : Bool} {fuel : Nat} {t : TypeId} {k : IntKind} {c : Value} {y : DataW H × List MemPlace}
    (ht : P.underlying t = some (.int k)) (h : DataW.trod enc P w base sp held fuel t [c] = some y) : ∃ n, c = .int k n ∧ y = (.lit (.int k n), []) := by
  cases fuel with
  | zero => simp [DataW.trod] at h
  | succ fuel =>
    cases c <;> simp [DataW.trod, ht] at h
    rename_i k' n
    obtain ⟨⟨rfl, _⟩, rfl⟩ := h
    exact ⟨n, rfl, rfl⟩
theorem mapM_get {α β : Type} {g : α → Option β} : ∀ {l : List α} {ys : List β}, l.mapM g = some ys → ∀ (j : Nat) (x : α), l[j]? = some x → ∃ y, g x = some y ∧ ys[j]? = some y
  | [], ys, _, j, x, hx => by simp at hx
  | a :: r, ys, h, j, x, hx => by
    simp only [List.mapM_cons, Option.bind_eq_bind, Option.bind_eq_some_iff, Option.pure_def, Option.some.injEq] at h
    obtain ⟨y, hy, zs, hz, rfl⟩ := h
    cases j with
    | zero =>
      simp at hx
      subst hx
      exact ⟨y, hy, rfl⟩
    | succ j =>
      simp at hx
      obtain ⟨y', h1, h2⟩ := mapM_get hz j x hx
      exact ⟨y', h1, by simpa using h2⟩
def tabD : List (DataW Unit) := Lib.deBruijn64tab.map fun (n : Nat) => .lit (.int .u8 (n : Int))
theorem tabD_laid : (Rows.laid_math_bits_deBruijn64tab : DataW Unit) = .agg tabD := by kernel_rfl
theorem tab_of_laid {W : World} (h : laidMet Tryd.prog [("math/bits.deBruijn64tab", Rows.laid_math_bits_deBruijn64tab)] W) : TabT W := by
  obtain ⟨ps, ⟨g, t, cs, fuel, p, q, hg, ht, hvar, hd, _, _⟩, _⟩ := h
  obtain rfl := Option.some.inj (gTab.symm.trans hg)
  obtain rfl := Option.some.inj (gTabType.symm.trans ht)
  intro j hj
  rw [World.var?_cell gTab hvar j]
  rw [tabD_laid] at hd
  cases fuel with
  | zero => simp [DataW.trod] at hd
  | succ fuel =>
    simp only [DataW.trod, Tryd.underlying115, cells115, cells5] at hd
    split at hd
    · rename_i hl
      simp only [Option.map_eq_some_iff] at hd
      obtain ⟨xs, hm, hx⟩ := hd
      have hx1 : xs.map (·.1) = tabD := by injection hx with h1 h2; injection h1
      have hj64 : j < 64 := hj
      obtain ⟨y, hy, hyj⟩ := mapM_get hm j j (by simp [hj64])
      have hlj : j < cs.toList.length := by omega
      have e1 : (cs.toList.drop (j * 1)).take 1 = [cs.toList[j]] := by
        rw [Nat.mul_one, List.drop_eq_getElem_cons hlj]
        rfl
      rw [e1] at hy
      obtain ⟨n, hn, rfl⟩ := int_of_trod Tryd.underlying5 hy
      have h2 : tabD[j]? = some (.lit (.int .u8 n)) := by
        rw [← hx1, List.getElem?_map, hyj]
        rfl
      have h3 : tabD[j]? = some (.lit (.int .u8 ((Lib.deBruijn64tab.getD j 0 : Nat) : Int))) := by
        unfold tabD
        rw [List.getElem?_map, List.getElem?_eq_getElem hj]
        simp [hj]
      have h4 : n = ((Lib.deBruijn64tab.getD j 0 : Nat) : Int) := by
        have := h2.symm.trans h3
        injection this with h5
        injection h5 with h6
        injection h6
      rw [← h4, ← hn]
      simp
    · cases hd
def tabC : Array Value := (Lib.deBruijn64tab.map fun (n : Nat) => Value.int .u8 (n : Int)).toArray
noncomputable def laidWorld (os : Os) : World :=
  { World.holding Tryd.prog os ⟨#[], #[], []⟩ with heap := (World.holding Tryd.prog os ⟨#[], #[], []⟩).heap.modify 0 fun
      | .cells _ t frozen => .cells tabC t frozen
      | o => o }
theorem laid_met (os : Os) (args : Array Value) : laidMet Tryd.prog [("math/bits.deBruijn64tab", Rows.laid_math_bits_deBruijn64tab)] ((laidWorld os).forCall (fun _ _ => 0) ⟨#[], args, []⟩).memory :=
  laidMet_of_run' 8 (by kernel_rfl) (by kernel_rfl)
end Go.Proofs.YtjmdlmogdbhdhaaDoor.P
namespace Go.Proofs.YtjmdlmogdbhdhaaDoor.P
open Go.RowKit Go.Proofs.YtjmdlmogdbhdhaaDoorW.PrintWords Go.Proofs.YtjmdlmogdbhdhaaDoorW.PrintLast Go.Proofs.YtjmdlmogdbhdhaaDoorW.PrintMore
attribute [local go_sem] max2_int min2_int max_two min_two max_three min_three max_four min_four
set_option linter.unusedVariables false
set_option linter.unusedSimpArgs false
theorem eqA42 (d : Nat) (w : World) (x0 y0 : Int) (x1 y1 : Int) :
 (Op.equalIn (d + 2) 42 (.agg #[.int .i64 x0, .int .i64 x1]) (.agg #[.int .i64 y0, .int .i64 y1])).run Tryd.prog w = .ok (x0 == y0 && (x1 == y1)) w := by
 refine eqA_of Tryd.underlying42 (by kernel_rfl) ?_; refine eqf_cons (by rfl) (by go_simp; rfl) (by go_simp; rfl) (by go_simp) ?_; exact eqf_last (by rfl) (by go_simp; rfl) (by go_simp; rfl) (by go_simp)
end Go.Proofs.YtjmdlmogdbhdhaaDoor.P
namespace Go.Proofs.YtjmdlmogdbhdhaaDoor.P
open Go.RowKit Go.Proofs.YtjmdlmogdbhdhaaDoorW.PrintWords Go.Proofs.YtjmdlmogdbhdhaaDoorW.PrintLast Go.Proofs.YtjmdlmogdbhdhaaDoorW.PrintMore
attribute [local go_sem] max2_int min2_int max_two min_two max_three min_three max_four min_four
set_option linter.unusedVariables false
set_option linter.unusedSimpArgs false
def cmp_Or_int.l0 : Nat → Int → List Int → Int → Int → Option (Int)
 | 0, _, _, _, _ => none
 | k + 1, x3, x6, x7, x8 => if x8 < x7 then (if 0 ≤ x8 then (if x8 < (x6.length : Int) then (if (rd x6 x8) = x3 then (cmp_Or_int.l0 k x3 x6 x7 (wrap64 (x8 + 1))) else (some (rd x6 x8))) else (none)) else (none)) else (some x3)
def cmp_Or_int.f (k : Nat) (l0 : List Int) : Option (Int) := cmp_Or_int.l0 k 0 l0 (l0.length : Int) 0
set_option maxHeartbeats 8000000 in
set_option maxRecDepth 100000 in
theorem cmp_Or_int.calls (k : Nat) (A0 : Option Addr) (c0 : Nat) (l0 : List Int) (r : Int) (w : World) (hr0 : Kd.C (Kd.int .i64) w A0 l0.length l0) (hc0 : l0.length ≤ c0) (h : cmp_Or_int.f k l0 = some r) :
 Calls Tryd.prog 53 #[.slice A0 l0.length c0] w fun e w' => e = .returned (.int .i64 r) ∧ Drawn0 w w' := by
 have HR0 := Aside0.mk hr0; have HC0 := Aside0.mk hc0; clear hr0 hc0; have H : (cmp_Or_int.l0 k 0 l0 (l0.length : Int) 0) = some r := h; clear h; have H' := Aside0.mk H; clear H; go_enter Tryd.func53, Tryd.ntmps53; go_wp2; go_loopg [8] k (fun kq v8 w' => ∃ (x8_1 : Int), v8 = .int .i64 x8_1 ∧ Aside0 (cmp_Or_int.l0 kq 0 l0 (l0.length : Int) x8_1 = some r) ∧ Aside0 (kq ≤ k) ∧ Drawn0 w w')
 case atStart => exact ⟨(0), zv, H', ⟨Nat.le_refl _⟩, by repeat (first | exact Drawn0.refl _ | apply Drawn0.step)⟩
 case round =>
  clear H'; obtain ⟨x8_1, rfl, HA, HK1, ⟨m1, rfl⟩⟩ := hrel; cases gk with
  | zero => exact absurd HA.out (by simp [cmp_Or_int.l0])
  | succ k1 =>
   have H := HA.out; clear HA; simp only [cmp_Or_int.l0] at H; by_cases c2 : x8_1 < (l0.length : Int)
   · rw [if_pos c2] at H; have c2b0 : decide (x8_1 < (l0.length : Int)) = true := decide_eq_true c2; clear c2; by_cases c3 : 0 ≤ x8_1
     · rw [if_pos c3] at H; have c3b0 : decide (0 ≤ x8_1) = true := decide_eq_true c3; clear c3; by_cases c4 : x8_1 < (l0.length : Int)
       · rw [if_pos c4] at H; have c4b0 : decide (x8_1 < (l0.length : Int)) = true := decide_eq_true c4; clear c4; by_cases c5 : (rd l0 x8_1) = 0
         · rw [if_pos c5] at H; have c5b0 : ((rd l0 x8_1) == 0) = true := beq_iff_eq.mpr c5; have c5b1 : ((rd l0 x8_1) != 0) = false := bne_eq_false_iff_eq.mpr c5; clear c5; have H' := Aside0.mk H; clear H; have p104 : 0 ≤ (x8_1 : Int) := of_decide_eq_true (by first | (with_reducible assumption) | assumption); have q104 : x8_1 < (l0.length : Int) := of_decide_eq_true (by first | (with_reducible assumption) | assumption); obtain ⟨ad104, e104, hx104_0⟩ := Kd.at_int HR0.out x8_1 p104 q104; cases e104; replace p104 := eq_true p104; replace q104 := eq_true q104; go_wp2; go_roundg k1
           case measure => have := HK1.out; omega
           case rel => exact ⟨(wrap64 (x8_1 + 1)), zv, H', ⟨by have := HK1.out; omega⟩, by repeat (first | exact Drawn0.refl _ | apply Drawn0.step)⟩
         · rw [if_neg c5] at H; have c5b0 : ((rd l0 x8_1) == 0) = false := beq_eq_false_iff_ne.mpr c5; have c5b1 : ((rd l0 x8_1) != 0) = true := bne_iff_ne.mpr c5; obtain rfl := Option.some.inj H; have p104 : 0 ≤ (x8_1 : Int) := of_decide_eq_true (by first | (with_reducible assumption) | assumption); have q104 : x8_1 < (l0.length : Int) := of_decide_eq_true (by first | (with_reducible assumption) | assumption); obtain ⟨ad104, e104, hx104_0⟩ := Kd.at_int HR0.out x8_1 p104 q104; cases e104; replace p104 := eq_true p104; replace q104 := eq_true q104; go_wp2; go_ret; exact ⟨by first | rfl | (simp; done) | (simp [*]; done), by repeat (first | exact Drawn0.refl _ | apply Drawn0.step)⟩
       · rw [if_neg c4] at H; exact absurd H (by simp)
     · rw [if_neg c3] at H; exact absurd H (by simp)
   · rw [if_neg c2] at H; have c2b0 : decide (x8_1 < (l0.length : Int)) = false := decide_eq_false c2; clear c2; obtain rfl := Option.some.inj H; go_wp2; go_ret; exact ⟨by first | rfl | (simp; done) | (simp [*]; done), by repeat (first | exact Drawn0.refl _ | apply Drawn0.step)⟩
end Go.Proofs.YtjmdlmogdbhdhaaDoor.P
namespace Go.Proofs.YtjmdlmogdbhdhaaDoor.P
open Go.RowKit Go.Proofs.YtjmdlmogdbhdhaaDoorW.PrintWords Go.Proofs.YtjmdlmogdbhdhaaDoorW.PrintLast Go.Proofs.YtjmdlmogdbhdhaaDoorW.PrintMore
attribute [local go_sem] max2_int min2_int max_two min_two max_three min_three max_four min_four
set_option linter.unusedVariables false
set_option linter.unusedSimpArgs false
def cmp_isNaN_int.f (a0 : Int) : Option (Bool) := some (a0 != a0)
set_option maxHeartbeats 8000000 in
set_option maxRecDepth 100000 in
theorem cmp_isNaN_int.calls (a0 : Int) (r : Bool) (w : World) (h : cmp_isNaN_int.f a0 = some r) :
 Calls Tryd.prog 80 #[.int .i64 a0] w fun e w' => e = .returned (.bool r) ∧ Drawn0 w w' := by
 have H : (some (a0 != a0)) = some r := h; clear h; obtain rfl := Option.some.inj H; go_enter Tryd.func80, Tryd.ntmps80; go_wp2; go_ret; exact ⟨by first | rfl | (simp; done) | (simp [*]; done), by repeat (first | exact Drawn0.refl _ | apply Drawn0.step)⟩
end Go.Proofs.YtjmdlmogdbhdhaaDoor.P
namespace Go.Proofs.YtjmdlmogdbhdhaaDoor.P
open Go.RowKit Go.Proofs.YtjmdlmogdbhdhaaDoorW.PrintWords Go.Proofs.YtjmdlmogdbhdhaaDoorW.PrintLast Go.Proofs.YtjmdlmogdbhdhaaDoorW.PrintMore
attribute [local go_sem] max2_int min2_int max_two min_two max_three min_three max_four min_four
set_option linter.unusedVariables false
set_option linter.unusedSimpArgs false
def cmp_Compare_int.f (a0 : Int) (a1 : Int) : Option (Int) := (cmp_isNaN_int.f a0).bind fun t105 => ((cmp_isNaN_int.f a1).bind fun t106 => (if t105 = true then (if t106 = true then (some 0) else (some (-1))) else (if t106 = true then (some 1) else (if a0 < a1 then (some (-1)) else (if a0 > a1 then (some 1) else (some 0))))))
set_option maxHeartbeats 8000000 in
set_option maxRecDepth 100000 in
theorem cmp_Compare_int.calls (a0 : Int) (a1 : Int) (r : Int) (w : World) (h : cmp_Compare_int.f a0 a1 = some r) :
 Calls Tryd.prog 54 #[.int .i64 a0, .int .i64 a1] w fun e w' => e = .returned (.int .i64 r) ∧ Drawn0 w w' := by
 have H : ((cmp_isNaN_int.f a0).bind fun t105 => ((cmp_isNaN_int.f a1).bind fun t106 => (if t105 = true then (if t106 = true then (some 0) else (some (-1))) else (if t106 = true then (some 1) else (if a0 < a1 then (some (-1)) else (if a0 > a1 then (some 1) else (some 0))))))) = some r := h; clear h; replace H := Option.bind_eq_some_iff.mp H; obtain ⟨t105, A30, H⟩ := H; replace H : ((cmp_isNaN_int.f a1).bind fun t106 => (if t105 = true then (if t106 = true then (some 0) else (some (-1))) else (if t106 = true then (some 1) else (if a0 < a1 then (some (-1)) else (if a0 > a1 then (some 1) else (some 0)))))) = some r := H; have A3 := Aside0.mk A30; clear A30; replace H := Option.bind_eq_some_iff.mp H; obtain ⟨t106, A40, H⟩ := H; replace H : (if t105 = true then (if t106 = true then (some 0) else (some (-1))) else (if t106 = true then (some 1) else (if a0 < a1 then (some (-1)) else (if a0 > a1 then (some 1) else (some 0))))) = some r := H; have A4 := Aside0.mk A40; clear A40; by_cases c5 : t105 = true
 · subst c5; have H1 : (if t106 = true then (some 0) else (some (-1))) = some r := by rw [if_pos rfl] at H; exact H
   clear H; have H := H1; clear H1; by_cases c6 : t106 = true
   · subst c6; have H1 : (some 0) = some r := by rw [if_pos rfl] at H; exact H
     clear H; have H := H1; clear H1; obtain rfl := Option.some.inj H; go_enter Tryd.func54, Tryd.ntmps54; go_wp2_with (first | ((with_reducible refine gate_callee (f := 80) rfl ?_); refine zG (some 8) rfl Tryd.func80 #[.int .i64 a0] ?_; (with_reducible refine (cmp_isNaN_int.calls a0 true _ A3.out).mono ?_); rintro e w' ⟨rfl, ⟨nd, rfl⟩⟩; refine ⟨_, rfl, ?_⟩) | ((with_reducible refine gate_callee (f := 80) rfl ?_); refine zG (some 10) rfl Tryd.func80 #[.int .i64 a1] ?_; (with_reducible refine (cmp_isNaN_int.calls a1 true _ A4.out).mono ?_); rintro e w' ⟨rfl, ⟨nd, rfl⟩⟩; refine ⟨_, rfl, ?_⟩)); go_ret; exact ⟨by first | rfl | (simp; done) | (simp [*]; done), by repeat (first | exact Drawn0.refl _ | apply Drawn0.step)⟩
   · replace c6 := Bool.eq_false_iff.mpr c6; subst c6; have H1 : (some (-1)) = some r := by rw [if_neg (show ¬ (false = true) by decide)] at H; exact H
     clear H; have H := H1; clear H1; obtain rfl := Option.some.inj H; go_enter Tryd.func54, Tryd.ntmps54; go_wp2_with (first | ((with_reducible refine gate_callee (f := 80) rfl ?_); refine zG (some 8) rfl Tryd.func80 #[.int .i64 a0] ?_; (with_reducible refine (cmp_isNaN_int.calls a0 true _ A3.out).mono ?_); rintro e w' ⟨rfl, ⟨nd, rfl⟩⟩; refine ⟨_, rfl, ?_⟩) | ((with_reducible refine gate_callee (f := 80) rfl ?_); refine zG (some 10) rfl Tryd.func80 #[.int .i64 a1] ?_; (with_reducible refine (cmp_isNaN_int.calls a1 false _ A4.out).mono ?_); rintro e w' ⟨rfl, ⟨nd, rfl⟩⟩; refine ⟨_, rfl, ?_⟩)); go_ret; exact ⟨by first | rfl | (simp; done) | (simp [*]; done), by repeat (first | exact Drawn0.refl _ | apply Drawn0.step)⟩
 · replace c5 := Bool.eq_false_iff.mpr c5; subst c5; have H1 : (if t106 = true then (some 1) else (if a0 < a1 then (some (-1)) else (if a0 > a1 then (some 1) else (some 0)))) = some r := by rw [if_neg (show ¬ (false = true) by decide)] at H; exact H
   clear H; have H := H1; clear H1; by_cases c7 : t106 = true
   · subst c7; have H1 : (some 1) = some r := by rw [if_pos rfl] at H; exact H
     clear H; have H := H1; clear H1; obtain rfl := Option.some.inj H; go_enter Tryd.func54, Tryd.ntmps54; go_wp2_with (first | ((with_reducible refine gate_callee (f := 80) rfl ?_); refine zG (some 8) rfl Tryd.func80 #[.int .i64 a0] ?_; (with_reducible refine (cmp_isNaN_int.calls a0 false _ A3.out).mono ?_); rintro e w' ⟨rfl, ⟨nd, rfl⟩⟩; refine ⟨_, rfl, ?_⟩) | ((with_reducible refine gate_callee (f := 80) rfl ?_); refine zG (some 10) rfl Tryd.func80 #[.int .i64 a1] ?_; (with_reducible refine (cmp_isNaN_int.calls a1 true _ A4.out).mono ?_); rintro e w' ⟨rfl, ⟨nd, rfl⟩⟩; refine ⟨_, rfl, ?_⟩)); go_ret; exact ⟨by first | rfl | (simp; done) | (simp [*]; done), by repeat (first | exact Drawn0.refl _ | apply Drawn0.step)⟩
   · replace c7 := Bool.eq_false_iff.mpr c7; subst c7; have H1 : (if a0 < a1 then (some (-1)) else (if a0 > a1 then (some 1) else (some 0))) = some r := by rw [if_neg (show ¬ (false = true) by decide)] at H; exact H
     clear H; have H := H1; clear H1; by_cases c8 : a0 < a1
     · rw [if_pos c8] at H; have c8b0 : decide (a0 < a1) = true := decide_eq_true c8; clear c8; obtain rfl := Option.some.inj H; go_enter Tryd.func54, Tryd.ntmps54; go_wp2_with (first | ((with_reducible refine gate_callee (f := 80) rfl ?_); refine zG (some 8) rfl Tryd.func80 #[.int .i64 a0] ?_; (with_reducible refine (cmp_isNaN_int.calls a0 false _ A3.out).mono ?_); rintro e w' ⟨rfl, ⟨nd, rfl⟩⟩; refine ⟨_, rfl, ?_⟩) | ((with_reducible refine gate_callee (f := 80) rfl ?_); refine zG (some 10) rfl Tryd.func80 #[.int .i64 a1] ?_; (with_reducible refine (cmp_isNaN_int.calls a1 false _ A4.out).mono ?_); rintro e w' ⟨rfl, ⟨nd, rfl⟩⟩; refine ⟨_, rfl, ?_⟩)); go_ret; exact ⟨by first | rfl | (simp; done) | (simp [*]; done), by repeat (first | exact Drawn0.refl _ | apply Drawn0.step)⟩
     · rw [if_neg c8] at H; have c8b0 : decide (a0 < a1) = false := decide_eq_false c8; clear c8; by_cases c9 : a0 > a1
       · rw [if_pos c9] at H; have c9b0 : decide (a1 < a0) = true := decide_eq_true c9; clear c9; obtain rfl := Option.some.inj H; go_enter Tryd.func54, Tryd.ntmps54; go_wp2_with (first | ((with_reducible refine gate_callee (f := 80) rfl ?_); refine zG (some 8) rfl Tryd.func80 #[.int .i64 a0] ?_; (with_reducible refine (cmp_isNaN_int.calls a0 false _ A3.out).mono ?_); rintro e w' ⟨rfl, ⟨nd, rfl⟩⟩; refine ⟨_, rfl, ?_⟩) | ((with_reducible refine gate_callee (f := 80) rfl ?_); refine zG (some 10) rfl Tryd.func80 #[.int .i64 a1] ?_; (with_reducible refine (cmp_isNaN_int.calls a1 false _ A4.out).mono ?_); rintro e w' ⟨rfl, ⟨nd, rfl⟩⟩; refine ⟨_, rfl, ?_⟩)); go_ret; exact ⟨by first | rfl | (simp; done) | (simp [*]; done), by repeat (first | exact Drawn0.refl _ | apply Drawn0.step)⟩
       · rw [if_neg c9] at H; have c9b0 : decide (a1 < a0) = false := decide_eq_false c9; clear c9; obtain rfl := Option.some.inj H; go_enter Tryd.func54, Tryd.ntmps54; go_wp2_with (first | ((with_reducible refine gate_callee (f := 80) rfl ?_); refine zG (some 8) rfl Tryd.func80 #[.int .i64 a0] ?_; (with_reducible refine (cmp_isNaN_int.calls a0 false _ A3.out).mono ?_); rintro e w' ⟨rfl, ⟨nd, rfl⟩⟩; refine ⟨_, rfl, ?_⟩) | ((with_reducible refine gate_callee (f := 80) rfl ?_); refine zG (some 10) rfl Tryd.func80 #[.int .i64 a1] ?_; (with_reducible refine (cmp_isNaN_int.calls a1 false _ A4.out).mono ?_); rintro e w' ⟨rfl, ⟨nd, rfl⟩⟩; refine ⟨_, rfl, ?_⟩)); go_ret; exact ⟨by first | rfl | (simp; done) | (simp [*]; done), by repeat (first | exact Drawn0.refl _ | apply Drawn0.step)⟩
end Go.Proofs.YtjmdlmogdbhdhaaDoor.P
namespace Go.Proofs.YtjmdlmogdbhdhaaDoor.P
open Go.RowKit Go.Proofs.YtjmdlmogdbhdhaaDoorW.PrintWords Go.Proofs.YtjmdlmogdbhdhaaDoorW.PrintLast Go.Proofs.YtjmdlmogdbhdhaaDoorW.PrintMore
attribute [local go_sem] max2_int min2_int max_two min_two max_three min_three max_four min_four
set_option linter.unusedVariables false
set_option linter.unusedSimpArgs false
def graph_compare.f (k : Nat) (a0_0 : Int) (a0_1 : Int) (a1_0 : Int) (a1_1 : Int) : Option (Int) := (cmp_Compare_int.f a0_0 a1_0).bind fun t109 => ((cmp_Compare_int.f a0_1 a1_1).bind fun t110 => ((cmp_Or_int.f k (([t109, t110] : List Int))).bind fun t114 => (some t114)))
def graph_compare.T1 : Bool × List (List Nat × List Nat) := (true, [([], []), ([0], [0]), ([], []), ([2], [2]), ([1, 3], [1, 3]), ([], []), ([5], [5]), ([], []), ([7], [7]), ([6, 8, 4], [6, 8]), ([4, 9], [4, 9]), ([10, 9], [10]), ([11, 11, 0, 1, 2, 3, 4, 5, 6, 7, 8, 9, 10, 11], [11])])
def graph_compare.B1 : List Nat := [0, 1, 0, 4, 15, 0, 32, 0, 128, 511, 1023, 2047, 4095]
theorem graph_compare.tab1 : rtab .any (opsOf Tryd.f73 1) = graph_compare.T1 := by kernel_rfl
theorem graph_compare.bits1 : waitsOk graph_compare.T1.2 graph_compare.B1 = true := by kernel_rfl
set_option maxHeartbeats 8000000 in
set_option maxRecDepth 100000 in
theorem graph_compare.calls (k : Nat) (a0_0 : Int) (a0_1 : Int) (a1_0 : Int) (a1_1 : Int) (r : Int) (w : World) (h : graph_compare.f k a0_0 a0_1 a1_0 a1_1 = some r) :
 Calls Tryd.prog 73 #[.agg #[.int .i64 a0_0, .int .i64 a0_1], .agg #[.int .i64 a1_0, .int .i64 a1_1]] w fun e w' => e = .returned (.int .i64 r) ∧ Below w.heap.size w w' := by
 have hu42 := Tryd.underlying42; have HB := Aside0.mk (Below.refl w.heap.size w); have H : ((cmp_Compare_int.f a0_0 a1_0).bind fun t109 => ((cmp_Compare_int.f a0_1 a1_1).bind fun t110 => ((cmp_Or_int.f k (([t109, t110] : List Int))).bind fun t114 => (some t114)))) = some r := h; clear h; replace H := Option.bind_eq_some_iff.mp H; obtain ⟨t109, A30, H⟩ := H; replace H : ((cmp_Compare_int.f a0_1 a1_1).bind fun t110 => ((cmp_Or_int.f k (([t109, t110] : List Int))).bind fun t114 => (some t114))) = some r := H; have A3 := Aside0.mk A30; clear A30; replace H := Option.bind_eq_some_iff.mp H; obtain ⟨t110, A40, H⟩ := H; replace H : ((cmp_Or_int.f k (([t109, t110] : List Int))).bind fun t114 => (some t114)) = some r := H; have A4 := Aside0.mk A40; clear A40; obtain ⟨y111, hy111⟩ : ∃ y_ : List Int, y_ = (([t109, t110] : List Int)) := ⟨_, rfl⟩; replace H : ((cmp_Or_int.f k y111).bind fun t114 => (some t114)) = some r := by first | (rw [hy111]; with_reducible exact H) | (have H2_ := (Option.bind_some _ _).symm.trans H; rw [hy111]; with_reducible exact H2_) | (have H2_ := (Option.bind_some _ _).symm.trans H; with_reducible exact H2_) | with_reducible exact H | (rw [hy111]; exact H) | exact H
 have Ny111 := Aside0.mk hy111; clear hy111; replace H := Option.bind_eq_some_iff.mp H; obtain ⟨t114, A50, H⟩ := H; replace H : (some t114) = some r := H; have A5 := Aside0.mk A50; clear A50; obtain rfl := Option.some.inj H; go_enter Tryd.func73, Tryd.ntmps73; try go_wp2_with (first | ((with_reducible refine gate_dst (N := 2) rfl ?_); refine zX (N := 2) (cs := #[.int .i64 a0_0, .int .i64 a0_1]) (t := 42) ?_; intro gb107 hg w6 hbox hb; have BK107 := Aside0.mk (hbox); have GW107 := Aside0.mk (zW hg HB); have GE107 := Aside0.mk (zW hg HB); replace HB := Aside0.mk (below_step (zB HB) hb); clear hb hbox hg) | ((with_reducible refine gate_dst (N := 3) rfl ?_); refine zX (N := 3) (cs := #[.int .i64 a1_0, .int .i64 a1_1]) (t := 42) ?_; intro gb108 hg w7 hbox hb; have BK108 := Aside0.mk (hbox); have GW108 := Aside0.mk (zW hg HB); have GE108 := Aside0.mk (zW hg HB); have NB107_108 := Aside0.mk (zNl hg BK107); have NB108_107 := Aside0.mk (zNr hg BK107); replace BK107 := Aside0.mk (zKb BK107 hb); replace HB := Aside0.mk (below_step (zB HB) hb); clear hb hbox hg))
 replace BK107 := Aside0.mk (blk_drew BK107.out); replace BK108 := Aside0.mk (blk_drew BK108.out); replace HB := Aside0.mk (below_drew1 HB.out); refine start_ (n := 13) (S := fun w' => w'.cell? ⟨gb107, 0, none⟩ = some (.int .i64 a0_0) ∧ w'.cell? ⟨gb107, 1, none⟩ = some (.int .i64 a0_1) ∧ w'.cell? ⟨gb108, 0, none⟩ = some (.int .i64 a1_0) ∧ w'.cell? ⟨gb108, 1, none⟩ = some (.int .i64 a1_1)) (ds := []) #[false, false, false, false, false, false, false, false, false, false, false, false, false] (by kernel_rfl) rfl rfl ⟨(blk_cell BK107.out 0).trans rfl, (blk_cell BK107.out 1).trans rfl, (blk_cell BK108.out 0).trans rfl, (blk_cell BK108.out 1).trans rfl⟩ (fun hHeld => ?_); refine with_tabW graph_compare.tab1 graph_compare.bits1 (fun HT_ HW_ => ?_); generalize w7.drew = w8 at BK107 BK108 HB hHeld ⊢; refine zpu (i := 0) (n := 5) #[true, false, false, false, false, false, false, false, false, false, false, false, false] HT_ ?_; refine zpu (i := 2) (n := 7) #[true, false, true, false, false, false, false, false, false, false, false, false, false] HT_ ?_; refine zpu (i := 5) (n := 10) #[true, false, true, false, false, true, false, false, false, false, false, false, false] HT_ ?_; refine zpu (i := 7) (n := 12) #[true, false, true, false, false, true, false, true, false, false, false, false, false] HT_ ?_; refine zt4 (i := 1) (n := 6) #[true, true, true, false, false, true, false, true, false, false, false, false, false] HT_ HW_ hHeld ?_; refine zt4 (i := 3) (n := 8) #[true, true, true, true, false, true, false, true, false, false, false, false, false] HT_ HW_ hHeld ?_; refine zt4 (i := 6) (n := 11) #[true, true, true, true, false, true, true, true, false, false, false, false, false] HT_ HW_ hHeld ?_; refine zt4 (i := 8) (n := 13) #[true, true, true, true, false, true, true, true, true, false, false, false, false] HT_ HW_ hHeld ?_; refine one_ (i := 4) (N := some 9) #[true, true, true, true, true, true, true, true, true, false, false, false, false] rfl rfl (one_of HT_.out (by kernel_rfl)) (by decide) (fun K hK => ?_); refine goes_ Tryd.func54 (by kernel_rfl) rfl #[.int .i64 a0_0, .int .i64 a1_0] (by rfl) rfl rfl (by (try simp only [List.map_toArray, List.map_cons, List.map_nil]); first | done | rfl | (simp only [List.length_drop, List.length_take]; rfl)) ?_; with_reducible refine (cmp_Compare_int.calls a0_0 a1_0 t109 _ A3.out).mono ?_
 rintro e w' ⟨rfl, ⟨nd, rfl⟩⟩; refine ⟨_, rfl, ?_⟩; refine hK.out _ _ ⟨(blk_cell BK107.out 0).trans rfl, (blk_cell BK107.out 1).trans rfl, (blk_cell BK108.out 0).trans rfl, (blk_cell BK108.out 1).trans rfl⟩ (fun hHeld => ?_); clear hK K; refine znn 9 ?_; refine one_ (i := 9) (N := some 14) #[true, true, true, true, true, true, true, true, true, true, false, false, false] rfl rfl (one_of HT_.out (by kernel_rfl)) (by decide) (fun K hK => ?_); refine goes_ Tryd.func54 (by kernel_rfl) rfl #[.int .i64 a0_1, .int .i64 a1_1] (by rfl) rfl rfl (by (try simp only [List.map_toArray, List.map_cons, List.map_nil]); first | done | rfl | (simp only [List.length_drop, List.length_take]; rfl)) ?_; with_reducible refine (cmp_Compare_int.calls a0_1 a1_1 t110 _ A4.out).mono ?_
 rintro e w' ⟨rfl, ⟨nd, rfl⟩⟩; refine ⟨_, rfl, ?_⟩; refine hK.out _ _ ⟨(blk_cell BK107.out 0).trans rfl, (blk_cell BK107.out 1).trans rfl, (blk_cell BK108.out 0).trans rfl, (blk_cell BK108.out 1).trans rfl⟩ (fun hHeld => ?_); clear hK K; refine znn 14 ?_; refine one_ (i := 10) (N := some 15) #[true, true, true, true, true, true, true, true, true, true, true, false, false] rfl rfl (one_of HT_.out (by kernel_rfl)) (by decide) (fun K hK => ?_); refine Kd.R_lit_step (Kd.int .i64) _ 3 ?hg (N := 15) ?hd (xs := ([t109, t110] : List Int)) (inner := [.int .i64 t109, .int .i64 t110]) (ok := fun _ => True) (okp := fun _ => True) ?hr ?hp (fun _ hk => hk) trivial (Below.refl _ _) (Nat.le_refl _) (by simp) ?_; (case hd => rfl); (case hg => rfl); (case hr => first | (go_simp; done) | (go_simp; rfl)); (case hp => exact (Reps.one (show Kd.M (Kd.int .i64) _ _ _ t109 [.int .i64 t109] from rfl) (Reps.one (show Kd.M (Kd.int .i64) _ _ _ t110 [.int .i64 t110] from rfl) (Reps.none _ _)))); intro v112 w9 ho10 hb hg_ hnew_; clear hg_ hnew_; (first | rw [← Ny111.out] at ho10 | (simp only [Int.reduceToNat] at ho10; rw [← Ny111.out] at ho10)); have HO113 := Aside0.mk (Kd.R_lower ho10 (below_size (zB HB))); replace BK107 := Aside0.mk (zKb BK107 hb); replace BK108 := Aside0.mk (zKb BK108 hb); replace HB := Aside0.mk (below_step (zB HB) hb); clear hb ho10; obtain ⟨Ao11, co11, eo11⟩ := Kd.R_slice HO113.out; (first | subst eo11 | (injection eo11 with f1_ f2_ f3_; have f4_ := f1_.symm; have f5_ := f3_.symm; clear f1_ f2_ f3_; subst f4_; subst f5_)); refine hK.out _ _ ⟨(blk_cell BK107.out 0).trans rfl, (blk_cell BK107.out 1).trans rfl, (blk_cell BK108.out 0).trans rfl, (blk_cell BK108.out 1).trans rfl⟩ (fun hHeld => ?_); clear hK K; refine znn 15 ?_; refine one_ (i := 11) (N := some 16) #[true, true, true, true, true, true, true, true, true, true, true, true, false] rfl rfl (one_of HT_.out (by kernel_rfl)) (by decide) (fun K hK => ?_); refine goes_ Tryd.func53 (by kernel_rfl) rfl #[.slice Ao11 y111.length co11] (by rfl) rfl rfl (by (try simp only [List.map_toArray, List.map_cons, List.map_nil]); first | done | rfl | (simp only [List.length_drop, List.length_take]; rfl)) ?_; with_reducible refine (cmp_Or_int.calls k _ _ y111 t114 _ ?side1 ?side2 A5.out).mono ?_
 (case side1 => repeat (first | exact (Kd.R_reads' HO113.out).2.2 | (with_reducible refine Kd.C_alloc ?_ _) | (with_reducible refine Kd.C_drewN ?_ _) | (with_reducible refine Kd.C_drew ?_))); (case side2 => exact (Kd.R_reads' HO113.out).2.1); rintro e w' ⟨rfl, ⟨nd, rfl⟩⟩; refine ⟨_, rfl, ?_⟩; refine hK.out _ _ ⟨(blk_cell BK107.out 0).trans rfl, (blk_cell BK107.out 1).trans rfl, (blk_cell BK108.out 0).trans rfl, (blk_cell BK108.out 1).trans rfl⟩ (fun hHeld => ?_); clear hK K; refine znn 16 ?_; refine zpu (i := 12) (n := 4) #[true, true, true, true, true, true, true, true, true, true, true, true, true] HT_ ?_; refine done_ (done_of HT_.out (by kernel_rfl)) ?_; try go_wp2
 go_ret; exact ⟨by first | rfl | (simp [errW_none, errW_some] <;> rfl) | (simp [*, errW_none, errW_some] <;> rfl), zB HB⟩
end Go.Proofs.YtjmdlmogdbhdhaaDoor.P
namespace Go.Proofs.YtjmdlmogdbhdhaaDoor.P
open Go.RowKit Go.Proofs.YtjmdlmogdbhdhaaDoorW.PrintWords Go.Proofs.YtjmdlmogdbhdhaaDoorW.PrintLast Go.Proofs.YtjmdlmogdbhdhaaDoorW.PrintMore
attribute [local go_sem] max2_int min2_int max_two min_two max_three min_three max_four min_four
set_option linter.unusedVariables false
set_option linter.unusedSimpArgs false
mutual
def graph_Validate.j0 : Nat → Bool → Int → List (S42) → Option (Int)
 | 0, _, _, _ => none
 | k + 1, x12, x116000, x116001 => if x12 = true then (some 1) else (graph_Validate.l0 k x116001 (x116001.length : Int) 0 x116000 x116001)
def graph_Validate.l0 : Nat → List (S42) → Int → Int → Int → List (S42) → Option (Int)
 | 0, _, _, _, _, _ => none
 | k + 1, x14, x15, x16, x116000, x116001 => if x16 < x15 then (if 0 ≤ x16 then (if x16 < (x14.length : Int) then (if (mn ((rd_T42 x14 x16).f0) ((rd_T42 x14 x16).f1)) < 0 then (graph_Validate.j2 k x16 x14 x15 x16 true x116000 x116001 ((rd_T42 x14 x16).f0) ((rd_T42 x14 x16).f1)) else (graph_Validate.j2 k x16 x14 x15 x16 (decide ((mx ((rd_T42 x14 x16).f0) ((rd_T42 x14 x16).f1)) ≥ x116000)) x116000 x116001 ((rd_T42 x14 x16).f0) ((rd_T42 x14 x16).f1))) else (none)) else (none)) else (some 0)
def graph_Validate.j2 : Nat → Int → List (S42) → Int → Int → Bool → Int → List (S42) → Int → Int → Option (Int)
 | 0, _, _, _, _, _, _, _, _, _ => none
 | k + 1, x3, x14, x15, x16, x36, x116000, x116001, x118000, x118001 => if x36 = true then (some 1) else (if x3 > 0 then (if 0 ≤ (wrap64 (x3 - 1)) then (if (wrap64 (x3 - 1)) < (x116001.length : Int) then ((graph_compare.f k ((rd_T42 x116001 (wrap64 (x3 - 1))).f0) ((rd_T42 x116001 (wrap64 (x3 - 1))).f1) x118000 x118001).bind fun t119 => (if t119 ≥ 0 then (some 8) else (graph_Validate.l0 k x14 x15 (wrap64 (x16 + 1)) x116000 x116001))) else (none)) else (none)) else (graph_Validate.l0 k x14 x15 (wrap64 (x16 + 1)) x116000 x116001))
end
def graph_Validate.f (k : Nat) (a0_0 : Int) (l0_1 : List (S42)) : Option (Int) := if a0_0 < 0 then (graph_Validate.j0 k true a0_0 l0_1) else (graph_Validate.j0 k (decide (a0_0 > 40)) a0_0 l0_1)
def graph_Validate.T8 : Bool × List (List Nat × List Nat) := (true, [([], []), ([0], [0]), ([1], [1]), ([2], [2]), ([3, 2], [2, 3]), ([2], [2]), ([5, 2], [2, 5]), ([4, 6, 2], [2, 4, 6]), ([7, 2], [2, 7]), ([2], [2]), ([8, 9, 2, 2], [2, 8, 9]), ([10, 2], [2, 10]), ([2, 11], [2, 11])])
def graph_Validate.B8 : List Nat := [0, 1, 3, 7, 15, 7, 39, 127, 255, 7, 1023, 2047, 4095]
theorem graph_Validate.tab8 : rtab .any (opsOf Tryd.f41 8) = graph_Validate.T8 := by kernel_rfl
theorem graph_Validate.bits8 : waitsOk graph_Validate.T8.2 graph_Validate.B8 = true := by kernel_rfl
set_option maxHeartbeats 8000000 in
set_option maxRecDepth 100000 in
theorem graph_Validate.calls (k : Nat) (a0_0 : Int) (A0_1 : Option Addr) (c0_1 : Nat) (l0_1 : List (S42)) (r : Int) (w : World) (hr0_1 : Kd.C k42 w A0_1 l0_1.length l0_1) (hc0_1 : l0_1.length ≤ c0_1) (h : graph_Validate.f k a0_0 l0_1 = some r) :
 Calls Tryd.prog 41 #[.agg #[.int .i64 a0_0, .slice A0_1 l0_1.length c0_1]] w fun e w' => e = .returned (.int .i64 r) ∧ Below w.heap.size w w' := by
 have hu24 := Tryd.underlying24; have hu42 := Tryd.underlying42; have HR0_1 := Aside0.mk hr0_1; have HC0_1 := Aside0.mk hc0_1; clear hr0_1 hc0_1; have HB := Aside0.mk (Below.refl w.heap.size w); have H : (if a0_0 < 0 then (graph_Validate.j0 k true a0_0 l0_1) else (graph_Validate.j0 k (decide (a0_0 > 40)) a0_0 l0_1)) = some r := h; clear h; have HC2 := Aside0.mk H; clear H; go_enter Tryd.func41, Tryd.ntmps41; go_upto_region 1 with (first | ((with_reducible refine gate_dst (N := 1) rfl ?_); (try (refine gate_guard (by rfl) ?_; dsimp only)); refine zX (N := 1) (cs := #[.int .i64 a0_0, .slice A0_1 l0_1.length c0_1]) (t := 24) ?_; intro gb115 hg w3 hbox hb; have BK115 := Aside0.mk (hbox); have GW115 := Aside0.mk (zW hg HB); have GE115 := Aside0.mk (zW hg HB); replace HB := Aside0.mk (below_step (zB HB) hb); clear hb hbox hg))
 (try simp only [Act.put, List.setIfInBounds_toArray, List.set_cons_zero, List.set_cons_succ]); go_cut [12] (fun v12 wc => ∃ (kq : Nat) (x12_1 : Bool), v12 = .bool x12_1 ∧ Aside0 (graph_Validate.j0 kq x12_1 a0_0 l0_1 = some r) ∧ Aside0 (kq ≤ k) ∧ Aside0 (wc.heap[gb115]? = some (.cells #[.int .i64 a0_0, (.slice A0_1 l0_1.length c0_1)] 24 (0, 0))) ∧ Aside0 (Below w.heap.size w wc))
 case first =>
  have H := HC2.out; clear HC2; by_cases c4 : a0_0 < 0
  · rw [if_pos c4] at H; have c4b0 : decide (a0_0 < 0) = true := decide_eq_true c4; clear c4; (first | rw [c4b0] | (simp only [i64_w, i32_w]; rw [c4b0]) | skip); have H' := Aside0.mk H; clear H; have hcz5_0 := zc BK115 0; have hcz5_1 := zc BK115 1; have hfz5_0 := blk_frozen BK115.out 0; have hfz5_1 := blk_frozen BK115.out 1; go_wp2; go_meet
    case rel => exact ⟨_, (true), zv, H', ⟨by first | omega | exact Nat.le_refl _⟩, ⟨zK BK115⟩, ⟨zB HB⟩⟩
  · rw [if_neg c4] at H; have c4b0 : decide (a0_0 < 0) = false := decide_eq_false c4; clear c4; (first | rw [c4b0] | (simp only [i64_w, i32_w]; rw [c4b0]) | skip); have H' := Aside0.mk H; clear H; have hcz6_0 := zc BK115 0; have hcz6_1 := zc BK115 1; have hfz6_0 := blk_frozen BK115.out 0; have hfz6_1 := blk_frozen BK115.out 1; go_wp2; go_meet
    case rel => exact ⟨_, (decide (a0_0 > 40)), zv, H', ⟨by first | omega | exact Nat.le_refl _⟩, ⟨zK BK115⟩, ⟨zB HB⟩⟩
 case rest =>
  clear HC2; try clear p2
  try clear c4
  try clear c4b0
  try clear hcz5_0
  try clear hcz5_1
  try clear hcz6_0
  try clear hcz6_1
  try clear hfz5_0
  try clear hfz5_1
  try clear hfz6_0
  try clear hfz6_1
  obtain ⟨kq, x12_1, rfl, HA, HJ1, BK115, HB⟩ := hcut; cases kq with
  | zero => exact absurd HA.out (by simp [graph_Validate.j0])
  | succ kj1 =>
   have H := HA.out; clear HA; simp only [graph_Validate.j0] at H; by_cases c7 : x12_1 = true
   · subst c7; have H1 : (some 1) = some r := by rw [if_pos rfl] at H; exact H
     clear H; have H := H1; clear H1; obtain rfl := Option.some.inj H; go_wp2; go_ret; exact ⟨by first | rfl | (simp [errW_none, errW_some] <;> rfl) | (simp [*, errW_none, errW_some] <;> rfl), zB HB⟩
   · replace c7 := Bool.eq_false_iff.mpr c7; subst c7; have H1 : (graph_Validate.l0 kj1 l0_1 (l0_1.length : Int) 0 a0_0 l0_1) = some r := by rw [if_neg (show ¬ (false = true) by decide)] at H; exact H
     clear H; have H := H1; clear H1; have H' := Aside0.mk H; clear H; have hcz8_0 := zc BK115 0; have hcz8_1 := zc BK115 1; have hfz8_0 := blk_frozen BK115.out 0; have hfz8_1 := blk_frozen BK115.out 1; go_wp2; go_loopg [16] kj1 (fun kq v16 w' => ∃ (x16_2 : Int), v16 = .int .i64 x16_2 ∧ Aside0 (graph_Validate.l0 kq l0_1 (l0_1.length : Int) x16_2 a0_0 l0_1 = some r) ∧ Aside0 (kq ≤ kj1) ∧ Aside0 (w'.heap[gb115]? = some (.cells #[.int .i64 a0_0, (.slice A0_1 l0_1.length c0_1)] 24 (0, 0))) ∧ Aside0 (Below w.heap.size w w'))
     case atStart => exact ⟨(0), zv, H', ⟨Nat.le_refl _⟩, ⟨zK BK115⟩, ⟨zB HB⟩⟩
     case round =>
      clear H'; try clear p2
      try clear c4
      try clear c4b0
      try clear c7
      try clear hcz5_0
      try clear hcz5_1
      try clear hcz6_0
      try clear hcz6_1
      try clear hcz8_0
      try clear hcz8_1
      try clear hfz5_0
      try clear hfz5_1
      try clear hfz6_0
      try clear hfz6_1
      try clear hfz8_0
      try clear hfz8_1
      try clear p2
      obtain ⟨x16_2, rfl, HA, HK2, BK115, HB⟩ := hrel; cases gk with
      | zero => exact absurd HA.out (by simp [graph_Validate.l0])
      | succ k2 =>
       have H := HA.out; clear HA; simp only [graph_Validate.l0] at H; by_cases c9 : x16_2 < (l0_1.length : Int)
       · rw [if_pos c9] at H; have c9b0 : decide (x16_2 < (l0_1.length : Int)) = true := decide_eq_true c9; clear c9; by_cases c10 : 0 ≤ x16_2
         · rw [if_pos c10] at H; have c10b0 : decide (0 ≤ x16_2) = true := decide_eq_true c10; clear c10; by_cases c11 : x16_2 < (l0_1.length : Int)
           · rw [if_pos c11] at H; have c11b0 : decide (x16_2 < (l0_1.length : Int)) = true := decide_eq_true c11; clear c11; have HC12 := Aside0.mk H; clear H; have p116 : 0 ≤ (x16_2 : Int) := of_decide_eq_true (by first | (with_reducible assumption) | assumption); have q116 : x16_2 < (l0_1.length : Int) := of_decide_eq_true (by first | (with_reducible assumption) | assumption); obtain ⟨ad116, e116, hx116_0, hx116_1⟩ := at_T42 HR0_1.out x16_2 p116 q116; cases e116; replace hx116_0 := (HB.out.cell (World.block_lt_of_cell? w _ hx116_0)).trans hx116_0; replace hx116_1 := (HB.out.cell (World.block_lt_of_cell? w _ hx116_1)).trans hx116_1; replace p116 := eq_true p116; replace q116 := eq_true q116; go_upto_region 6 with (first | ((with_reducible refine gate_dst (N := 4) rfl ?_); (try (refine gate_guard (by rfl) ?_; dsimp only)); refine zX (N := 4) (cs := #[.int .i64 0, .int .i64 0]) (t := 42) ?_; intro gb117 hg w13 hbox hb; have BK117 := Aside0.mk (hbox); have GW117 := Aside0.mk (zW hg HB); have GE117 := Aside0.mk (zW hg HB); have NB115_117 := Aside0.mk (zNl hg BK115); have NB117_115 := Aside0.mk (zNr hg BK115); replace BK115 := Aside0.mk (zKb BK115 hb); replace HB := Aside0.mk (below_step (zB HB) hb); clear hb hbox hg; have hnb14 := NB117_115.out; have hnc14 := NB115_117.out; have hcz15_0 := zc BK117 0; have hcz15_1 := zc BK117 1; have hfz15_0 := blk_frozen BK117.out 0; have hfz15_1 := blk_frozen BK117.out 1))
             (try simp only [Act.put, List.setIfInBounds_toArray, List.set_cons_zero, List.set_cons_succ]); go_cut [36] (fun v36 wc => ∃ (kq : Nat) (x36_11 : Bool), v36 = .bool x36_11 ∧ Aside0 (graph_Validate.j2 kq x16_2 l0_1 (l0_1.length : Int) x16_2 x36_11 a0_0 l0_1 ((rd_T42 l0_1 x16_2).f0) ((rd_T42 l0_1 x16_2).f1) = some r) ∧ Aside0 (kq ≤ k2) ∧ Aside0 (wc.heap[gb115]? = some (.cells #[.int .i64 a0_0, (.slice (some ad116) l0_1.length c0_1)] 24 (0, 0))) ∧ Aside0 (wc.heap[gb117]? = some (.cells #[.int .i64 ((rd_T42 l0_1 x16_2).f0), .int .i64 ((rd_T42 l0_1 x16_2).f1)] 42 (0, 0))) ∧ Aside0 (Below w.heap.size w wc))
             case first =>
              have H := HC12.out; clear HC12; obtain ⟨ji16, hji16⟩ : ∃ j_ : Int, (mn ((rd_T42 l0_1 x16_2).f0) ((rd_T42 l0_1 x16_2).f1)) = j_ := ⟨_, rfl⟩; replace H : (if (ji16) < 0 then (graph_Validate.j2 k2 x16_2 l0_1 (l0_1.length : Int) x16_2 true a0_0 l0_1 ((rd_T42 l0_1 x16_2).f0) ((rd_T42 l0_1 x16_2).f1)) else (graph_Validate.j2 k2 x16_2 l0_1 (l0_1.length : Int) x16_2 (decide ((mx ((rd_T42 l0_1 x16_2).f0) ((rd_T42 l0_1 x16_2).f1)) ≥ a0_0)) a0_0 l0_1 ((rd_T42 l0_1 x16_2).f0) ((rd_T42 l0_1 x16_2).f1))) = some r := by first | (rw [hji16] at H; exact H) | (simp only [hji16] at H ⊢; exact H)
              have hji16_ : (if ((rd_T42 l0_1 x16_2).f1) < ((rd_T42 l0_1 x16_2).f0) then ((rd_T42 l0_1 x16_2).f1) else ((rd_T42 l0_1 x16_2).f0)) = ji16 := hji16; by_cases c17 : (ji16) < 0
              · rw [if_pos c17] at H; have c17b0 : decide ((ji16) < 0) = true := decide_eq_true c17; clear c17; (first | rw [c17b0] | (simp only [i64_w, i32_w]; rw [c17b0]) | skip); have H' := Aside0.mk H; clear H; have hnb18 := NB117_115.out; have hnc18 := NB115_117.out; have hcz19_0 := zc BK117 0; have hcz19_1 := zc BK117 1; have hfz19_0 := blk_frozen BK117.out 0; have hfz19_1 := blk_frozen BK117.out 1; go_wp2; go_meet
                case rel => exact ⟨_, (true), zv, H', ⟨by have := HJ1.out; have := HK2.out; first | omega | exact Nat.le_refl _⟩, ⟨by refine zk ?_; refine blk_far ?_ NB115_117.out _; refine zk ?_; refine blk_far ?_ NB115_117.out _; refine zk ?_; exact BK115.out⟩, ⟨by refine zk ?_; refine blk_put (cs := #[.int .i64 ((rd_T42 l0_1 x16_2).f0), .int .i64 0]) ?_ 1 _ rfl; refine zk ?_; refine blk_put (cs := #[.int .i64 0, .int .i64 0]) ?_ 0 _ rfl; refine zk ?_; exact BK117.out⟩, ⟨zB HB⟩⟩
              · rw [if_neg c17] at H; have c17b0 : decide ((ji16) < 0) = false := decide_eq_false c17; clear c17; (first | rw [c17b0] | (simp only [i64_w, i32_w]; rw [c17b0]) | skip); obtain ⟨ji20, hji20⟩ : ∃ j_ : Int, (mx ((rd_T42 l0_1 x16_2).f0) ((rd_T42 l0_1 x16_2).f1)) = j_ := ⟨_, rfl⟩; replace H : (graph_Validate.j2 k2 x16_2 l0_1 (l0_1.length : Int) x16_2 (decide ((ji20) ≥ a0_0)) a0_0 l0_1 ((rd_T42 l0_1 x16_2).f0) ((rd_T42 l0_1 x16_2).f1)) = some r := by first | (rw [hji20] at H; exact H) | (simp only [hji20] at H ⊢; exact H)
                have hji20_ : (if ((rd_T42 l0_1 x16_2).f0) < ((rd_T42 l0_1 x16_2).f1) then ((rd_T42 l0_1 x16_2).f1) else ((rd_T42 l0_1 x16_2).f0)) = ji20 := hji20; have H' := Aside0.mk H; clear H; have hnb21 := NB117_115.out; have hnc21 := NB115_117.out; have hcz22_0 := zc BK117 0; have hcz22_1 := zc BK117 1; have hfz22_0 := blk_frozen BK117.out 0; have hfz22_1 := blk_frozen BK117.out 1; have hcz23_0 := zc BK115 0; have hcz23_1 := zc BK115 1; have hfz23_0 := blk_frozen BK115.out 0; have hfz23_1 := blk_frozen BK115.out 1; go_wp2; go_meet
                case rel => exact ⟨_, (decide ((ji20) ≥ a0_0)), (by first | rfl | (simp; done) | (simp only [← hji20] <;> (first | rfl | simp)) | (simp [*]; done)), H', ⟨by have := HJ1.out; have := HK2.out; first | omega | exact Nat.le_refl _⟩, ⟨by refine zk ?_; refine blk_far ?_ NB115_117.out _; refine zk ?_; refine blk_far ?_ NB115_117.out _; refine zk ?_; exact BK115.out⟩, ⟨by refine zk ?_; refine blk_put (cs := #[.int .i64 ((rd_T42 l0_1 x16_2).f0), .int .i64 0]) ?_ 1 _ rfl; refine zk ?_; refine blk_put (cs := #[.int .i64 0, .int .i64 0]) ?_ 0 _ rfl; refine zk ?_; exact BK117.out⟩, ⟨zB HB⟩⟩
             case rest =>
              clear HC12; try clear c1
              try clear p1
              try clear q1
              try clear hx1
              try clear c2
              try clear p2
              try clear c4
              try clear c4b0
              try clear c7
              try clear c9
              try clear c9b0
              try clear c10
              try clear c10b0
              try clear c11
              try clear c11b0
              try clear p11
              try clear q11
              try clear hx11
              try clear c14
              try clear c17
              try clear c17b0
              try clear c18
              try clear c21
              try clear hcz15_0
              try clear hcz15_1
              try clear hcz19_0
              try clear hcz19_1
              try clear hcz22_0
              try clear hcz22_1
              try clear hcz23_0
              try clear hcz23_1
              try clear hcz5_0
              try clear hcz5_1
              try clear hcz6_0
              try clear hcz6_1
              try clear hcz8_0
              try clear hcz8_1
              try clear hfz15_0
              try clear hfz15_1
              try clear hfz19_0
              try clear hfz19_1
              try clear hfz22_0
              try clear hfz22_1
              try clear hfz23_0
              try clear hfz23_1
              try clear hfz5_0
              try clear hfz5_1
              try clear hfz6_0
              try clear hfz6_1
              try clear hfz8_0
              try clear hfz8_1
              try clear hx116_0
              try clear hx116_1
              try clear p116
              try clear p2
              try clear q116
              obtain ⟨kq, x36_11, rfl, HA, HJ11, BK115, BK117, HB⟩ := hcut; cases kq with
              | zero => exact absurd HA.out (by simp [graph_Validate.j2])
              | succ kj11 =>
               have H := HA.out; clear HA; simp only [graph_Validate.j2] at H; by_cases c24 : x36_11 = true
               · subst c24; have H1 : (some 1) = some r := by rw [if_pos rfl] at H; exact H
                 clear H; have H := H1; clear H1; obtain rfl := Option.some.inj H; go_wp2; go_ret; exact ⟨by first | rfl | (simp [errW_none, errW_some] <;> rfl) | (simp [*, errW_none, errW_some] <;> rfl), zB HB⟩
               · replace c24 := Bool.eq_false_iff.mpr c24; subst c24; have H1 : (if x16_2 > 0 then (if 0 ≤ (wrap64 (x16_2 - 1)) then (if (wrap64 (x16_2 - 1)) < (l0_1.length : Int) then ((graph_compare.f kj11 ((rd_T42 l0_1 (wrap64 (x16_2 - 1))).f0) ((rd_T42 l0_1 (wrap64 (x16_2 - 1))).f1) ((rd_T42 l0_1 x16_2).f0) ((rd_T42 l0_1 x16_2).f1)).bind fun t119 => (if t119 ≥ 0 then (some 8) else (graph_Validate.l0 kj11 l0_1 (l0_1.length : Int) (wrap64 (x16_2 + 1)) a0_0 l0_1))) else (none)) else (none)) else (graph_Validate.l0 kj11 l0_1 (l0_1.length : Int) (wrap64 (x16_2 + 1)) a0_0 l0_1)) = some r := by rw [if_neg (show ¬ (false = true) by decide)] at H; exact H
                 clear H; have H := H1; clear H1; by_cases c25 : x16_2 > 0
                 · rw [if_pos c25] at H; have c25b0 : decide (0 < x16_2) = true := decide_eq_true c25; clear c25; obtain ⟨ji26, hji26⟩ : ∃ j_ : Int, (wrap64 (x16_2 - 1)) = j_ := ⟨_, rfl⟩; replace H : (if 0 ≤ (ji26) then (if (ji26) < (l0_1.length : Int) then ((graph_compare.f kj11 ((rd_T42 l0_1 (ji26)).f0) ((rd_T42 l0_1 (ji26)).f1) ((rd_T42 l0_1 x16_2).f0) ((rd_T42 l0_1 x16_2).f1)).bind fun t119 => (if t119 ≥ 0 then (some 8) else (graph_Validate.l0 kj11 l0_1 (l0_1.length : Int) (wrap64 (x16_2 + 1)) a0_0 l0_1))) else (none)) else (none)) = some r := by first | (rw [hji26] at H; exact H) | (simp only [hji26] at H ⊢; exact H)
                   have hji26w : (IntKind.i64.wrap (x16_2 - 1)) = ji26 := (i64_w _).trans hji26; by_cases c27 : 0 ≤ (ji26)
                   · rw [if_pos c27] at H; have c27b0 : decide (0 ≤ (ji26)) = true := decide_eq_true c27; clear c27; by_cases c28 : (ji26) < (l0_1.length : Int)
                     · rw [if_pos c28] at H; have c28b0 : decide ((ji26) < (l0_1.length : Int)) = true := decide_eq_true c28; clear c28; replace H := Option.bind_eq_some_iff.mp H; obtain ⟨t119, A290, H⟩ := H; replace H : (if t119 ≥ 0 then (some 8) else (graph_Validate.l0 kj11 l0_1 (l0_1.length : Int) (wrap64 (x16_2 + 1)) a0_0 l0_1)) = some r := H; have A29 := Aside0.mk A290; clear A290; by_cases c30 : t119 ≥ 0
                       · rw [if_pos c30] at H; have c30b0 : decide (0 ≤ t119) = true := decide_eq_true c30; clear c30; obtain rfl := Option.some.inj H; try go_wp2
                         replace BK115 := Aside0.mk (blk_drew BK115.out); replace BK117 := Aside0.mk (blk_drew BK117.out); replace HB := Aside0.mk (below_drew1 HB.out); have p118 : 0 ≤ ((ji26) : Int) := of_decide_eq_true (by first | (with_reducible assumption) | assumption); have q118 : (ji26) < (l0_1.length : Int) := of_decide_eq_true (by first | (with_reducible assumption) | assumption); obtain ⟨ad118, e118, hx118_0, hx118_1⟩ := at_T42 HR0_1.out (ji26) p118 q118; have hw118_1 := hx118_1; have hw118_0 := hx118_0; obtain rfl : ad116 = ad118 := (by injection e118); replace hx118_0 := (HB.out.cell (World.block_lt_of_cell? w _ hx118_0)).trans hx118_0; replace hx118_1 := (HB.out.cell (World.block_lt_of_cell? w _ hx118_1)).trans hx118_1; replace p118 := eq_true p118; replace q118 := eq_true q118; refine start_ (n := 13) (S := fun w' => w'.cell? ⟨gb115, 0, none⟩ = some (.int .i64 a0_0) ∧ w'.cell? ⟨gb115, 1, none⟩ = some (.slice (some ad116) l0_1.length c0_1) ∧ w'.cell? ⟨gb117, 0, none⟩ = some (.int .i64 ((rd_T42 l0_1 x16_2).f0)) ∧ w'.cell? ⟨gb117, 1, none⟩ = some (.int .i64 ((rd_T42 l0_1 x16_2).f1)) ∧ w'.cell? (ad116.add (((ji26)).toNat * 2)) = some (.int .i64 ((rd_T42 l0_1 (ji26)).f0)) ∧ w'.cell? ⟨(ad116.add (((ji26)).toNat * 2)).block, (ad116.add (((ji26)).toNat * 2)).off + 1, none⟩ = some (.int .i64 ((rd_T42 l0_1 (ji26)).f1))) (ds := []) #[false, false, false, false, false, false, false, false, false, false, false, false, false] (by kernel_rfl) rfl rfl ⟨(blk_cell BK115.out 0).trans rfl, (blk_cell BK115.out 1).trans rfl, (blk_cell BK117.out 0).trans rfl, (blk_cell BK117.out 1).trans rfl, ((HB.out.cell (World.block_lt_of_cell? w _ hw118_0)).trans hw118_0), ((HB.out.cell (World.block_lt_of_cell? w _ hw118_1)).trans hw118_1)⟩ (fun hHeld => ?_); refine with_tabW graph_Validate.tab8 graph_Validate.bits8 (fun HT_ HW_ => ?_); generalize wc.drew = w31 at BK115 BK117 HB hx118_0 hx118_1 hHeld ⊢; refine zpu (i := 0) (n := 37) #[true, false, false, false, false, false, false, false, false, false, false, false, false] HT_ ?_; refine zpu (i := 1) (n := 38) #[true, true, false, false, false, false, false, false, false, false, false, false, false] HT_ ?_; refine zpu (i := 2) (n := 39) #[true, true, true, false, false, false, false, false, false, false, false, false, false] HT_ ?_; refine zpu (i := 3) (n := 40) #[true, true, true, true, false, false, false, false, false, false, false, false, false] HT_ ?_; refine zpu (i := 5) (n := 42) #[true, true, true, true, false, true, false, false, false, false, false, false, false] HT_ ?_; refine zpu (i := 6) (n := 43) #[true, true, true, true, false, true, true, false, false, false, false, false, false] HT_ ?_; refine zt6 (i := 4) (n := 41) #[true, true, true, true, true, true, true, false, false, false, false, false, false] HT_ HW_ hHeld ?_; refine zpu (i := 7) (n := 44) #[true, true, true, true, true, true, true, true, false, false, false, false, false] HT_ ?_; refine zt6 (i := 8) (n := 45) #[true, true, true, true, true, true, true, true, true, false, false, false, false] HT_ HW_ hHeld ?_; refine zt6 (i := 9) (n := 46) #[true, true, true, true, true, true, true, true, true, true, false, false, false] HT_ HW_ hHeld ?_; refine one_ (i := 10) (N := some 47) #[true, true, true, true, true, true, true, true, true, true, true, false, false] rfl rfl (one_of HT_.out (by kernel_rfl)) (by decide) (fun K hK => ?_); refine goes_ Tryd.func73 (by kernel_rfl) rfl #[.agg #[.int .i64 ((rd_T42 l0_1 (ji26)).f0), .int .i64 ((rd_T42 l0_1 (ji26)).f1)], .agg #[.int .i64 ((rd_T42 l0_1 x16_2).f0), .int .i64 ((rd_T42 l0_1 x16_2).f1)]] (by rfl) rfl rfl (by (try simp only [List.map_toArray, List.map_cons, List.map_nil]); first | done | (simp only [hji26]; rfl) | rfl | (simp only [List.length_drop, List.length_take]; rfl)) ?_; with_reducible refine (graph_compare.calls kj11 ((rd_T42 l0_1 (ji26)).f0) ((rd_T42 l0_1 (ji26)).f1) ((rd_T42 l0_1 x16_2).f0) ((rd_T42 l0_1 x16_2).f1) t119 _ A29.out).mono ?_
                         rintro e w32 ⟨rfl, hb⟩; refine ⟨_, rfl, ?_⟩; replace BK115 := Aside0.mk (zKb BK115 hb); replace BK117 := Aside0.mk (zKb BK117 hb); replace HB := Aside0.mk (below_step (zB HB) hb); (try clear hb); (try clear hb2); (try clear hk); (try clear hi); refine hK.out _ _ ⟨(blk_cell BK115.out 0).trans rfl, (blk_cell BK115.out 1).trans rfl, (blk_cell BK117.out 0).trans rfl, (blk_cell BK117.out 1).trans rfl, ((HB.out.cell (World.block_lt_of_cell? w _ hw118_0)).trans hw118_0), ((HB.out.cell (World.block_lt_of_cell? w _ hw118_1)).trans hw118_1)⟩ (fun hHeld => ?_); clear hK K; refine znn 47 ?_; refine zpu (i := 11) (n := 48) #[true, true, true, true, true, true, true, true, true, true, true, true, false] HT_ ?_; refine zpu (i := 12) (n := 49) #[true, true, true, true, true, true, true, true, true, true, true, true, true] HT_ ?_; refine done_ (done_of HT_.out (by kernel_rfl)) ?_; try go_wp2
                         go_ret; exact ⟨by first | rfl | (simp [errW_none, errW_some] <;> rfl) | (simp only [← hji26]; first | rfl | (simp [errW_none, errW_some] <;> rfl)) | (simp [*, errW_none, errW_some] <;> rfl), zB HB⟩
                       · rw [if_neg c30] at H; have c30b0 : decide (0 ≤ t119) = false := decide_eq_false c30; clear c30; have H' := Aside0.mk H; clear H; try go_wp2
                         replace BK115 := Aside0.mk (blk_drew BK115.out); replace BK117 := Aside0.mk (blk_drew BK117.out); replace HB := Aside0.mk (below_drew1 HB.out); have p118 : 0 ≤ ((ji26) : Int) := of_decide_eq_true (by first | (with_reducible assumption) | assumption); have q118 : (ji26) < (l0_1.length : Int) := of_decide_eq_true (by first | (with_reducible assumption) | assumption); obtain ⟨ad118, e118, hx118_0, hx118_1⟩ := at_T42 HR0_1.out (ji26) p118 q118; have hw118_1 := hx118_1; have hw118_0 := hx118_0; obtain rfl : ad116 = ad118 := (by injection e118); replace hx118_0 := (HB.out.cell (World.block_lt_of_cell? w _ hx118_0)).trans hx118_0; replace hx118_1 := (HB.out.cell (World.block_lt_of_cell? w _ hx118_1)).trans hx118_1; replace p118 := eq_true p118; replace q118 := eq_true q118; refine start_ (n := 13) (S := fun w' => w'.cell? ⟨gb115, 0, none⟩ = some (.int .i64 a0_0) ∧ w'.cell? ⟨gb115, 1, none⟩ = some (.slice (some ad116) l0_1.length c0_1) ∧ w'.cell? ⟨gb117, 0, none⟩ = some (.int .i64 ((rd_T42 l0_1 x16_2).f0)) ∧ w'.cell? ⟨gb117, 1, none⟩ = some (.int .i64 ((rd_T42 l0_1 x16_2).f1)) ∧ w'.cell? (ad116.add (((ji26)).toNat * 2)) = some (.int .i64 ((rd_T42 l0_1 (ji26)).f0)) ∧ w'.cell? ⟨(ad116.add (((ji26)).toNat * 2)).block, (ad116.add (((ji26)).toNat * 2)).off + 1, none⟩ = some (.int .i64 ((rd_T42 l0_1 (ji26)).f1))) (ds := []) #[false, false, false, false, false, false, false, false, false, false, false, false, false] (by kernel_rfl) rfl rfl ⟨(blk_cell BK115.out 0).trans rfl, (blk_cell BK115.out 1).trans rfl, (blk_cell BK117.out 0).trans rfl, (blk_cell BK117.out 1).trans rfl, ((HB.out.cell (World.block_lt_of_cell? w _ hw118_0)).trans hw118_0), ((HB.out.cell (World.block_lt_of_cell? w _ hw118_1)).trans hw118_1)⟩ (fun hHeld => ?_); refine with_tabW graph_Validate.tab8 graph_Validate.bits8 (fun HT_ HW_ => ?_); generalize wc.drew = w33 at BK115 BK117 HB hx118_0 hx118_1 hHeld ⊢; refine zpu (i := 0) (n := 37) #[true, false, false, false, false, false, false, false, false, false, false, false, false] HT_ ?_; refine zpu (i := 1) (n := 38) #[true, true, false, false, false, false, false, false, false, false, false, false, false] HT_ ?_; refine zpu (i := 2) (n := 39) #[true, true, true, false, false, false, false, false, false, false, false, false, false] HT_ ?_; refine zpu (i := 3) (n := 40) #[true, true, true, true, false, false, false, false, false, false, false, false, false] HT_ ?_; refine zpu (i := 5) (n := 42) #[true, true, true, true, false, true, false, false, false, false, false, false, false] HT_ ?_; refine zpu (i := 6) (n := 43) #[true, true, true, true, false, true, true, false, false, false, false, false, false] HT_ ?_; refine zt6 (i := 4) (n := 41) #[true, true, true, true, true, true, true, false, false, false, false, false, false] HT_ HW_ hHeld ?_; refine zpu (i := 7) (n := 44) #[true, true, true, true, true, true, true, true, false, false, false, false, false] HT_ ?_; refine zt6 (i := 8) (n := 45) #[true, true, true, true, true, true, true, true, true, false, false, false, false] HT_ HW_ hHeld ?_; refine zt6 (i := 9) (n := 46) #[true, true, true, true, true, true, true, true, true, true, false, false, false] HT_ HW_ hHeld ?_; refine one_ (i := 10) (N := some 47) #[true, true, true, true, true, true, true, true, true, true, true, false, false] rfl rfl (one_of HT_.out (by kernel_rfl)) (by decide) (fun K hK => ?_); refine goes_ Tryd.func73 (by kernel_rfl) rfl #[.agg #[.int .i64 ((rd_T42 l0_1 (ji26)).f0), .int .i64 ((rd_T42 l0_1 (ji26)).f1)], .agg #[.int .i64 ((rd_T42 l0_1 x16_2).f0), .int .i64 ((rd_T42 l0_1 x16_2).f1)]] (by rfl) rfl rfl (by (try simp only [List.map_toArray, List.map_cons, List.map_nil]); first | done | (simp only [hji26]; rfl) | rfl | (simp only [List.length_drop, List.length_take]; rfl)) ?_; with_reducible refine (graph_compare.calls kj11 ((rd_T42 l0_1 (ji26)).f0) ((rd_T42 l0_1 (ji26)).f1) ((rd_T42 l0_1 x16_2).f0) ((rd_T42 l0_1 x16_2).f1) t119 _ A29.out).mono ?_
                         rintro e w34 ⟨rfl, hb⟩; refine ⟨_, rfl, ?_⟩; replace BK115 := Aside0.mk (zKb BK115 hb); replace BK117 := Aside0.mk (zKb BK117 hb); replace HB := Aside0.mk (below_step (zB HB) hb); (try clear hb); (try clear hb2); (try clear hk); (try clear hi); refine hK.out _ _ ⟨(blk_cell BK115.out 0).trans rfl, (blk_cell BK115.out 1).trans rfl, (blk_cell BK117.out 0).trans rfl, (blk_cell BK117.out 1).trans rfl, ((HB.out.cell (World.block_lt_of_cell? w _ hw118_0)).trans hw118_0), ((HB.out.cell (World.block_lt_of_cell? w _ hw118_1)).trans hw118_1)⟩ (fun hHeld => ?_); clear hK K; refine znn 47 ?_; refine zpu (i := 11) (n := 48) #[true, true, true, true, true, true, true, true, true, true, true, true, false] HT_ ?_; refine zpu (i := 12) (n := 49) #[true, true, true, true, true, true, true, true, true, true, true, true, true] HT_ ?_; refine done_ (done_of HT_.out (by kernel_rfl)) ?_; try go_wp2
                         go_roundg kj11
                         case measure => have := HJ1.out; have := HK2.out; have := HJ11.out; omega
                         case rel => exact ⟨(wrap64 (x16_2 + 1)), zv, H', ⟨by have := HJ1.out; have := HK2.out; have := HJ11.out; omega⟩, ⟨zK BK115⟩, ⟨zB HB⟩⟩
                     · rw [if_neg c28] at H; exact absurd H (by simp)
                   · rw [if_neg c27] at H; exact absurd H (by simp)
                 · rw [if_neg c25] at H; have c25b0 : decide (0 < x16_2) = false := decide_eq_false c25; clear c25; have H' := Aside0.mk H; clear H; try go_wp2
                   replace BK115 := Aside0.mk (blk_drew BK115.out); replace BK117 := Aside0.mk (blk_drew BK117.out); replace HB := Aside0.mk (below_drew1 HB.out); refine start_ (n := 13) (S := fun w' => True) (ds := []) #[false, false, false, false, false, false, false, false, false, false, false, false, false] (by kernel_rfl) rfl rfl trivial (fun hHeld => ?_); refine with_tabW graph_Validate.tab8 graph_Validate.bits8 (fun HT_ HW_ => ?_); generalize wc.drew = w35 at BK115 BK117 HB hHeld ⊢; refine zpu (i := 0) (n := 37) #[true, false, false, false, false, false, false, false, false, false, false, false, false] HT_ ?_; refine zpu (i := 1) (n := 38) #[true, true, false, false, false, false, false, false, false, false, false, false, false] HT_ ?_; refine zpu (i := 2) (n := 39) #[true, true, true, false, false, false, false, false, false, false, false, false, false] HT_ ?_; refine zpn (i := 3) (n := 40) #[true, true, true, true, false, false, false, false, false, false, false, false, false] HT_ ?_; refine zpn (i := 4) (n := 41) #[true, true, true, true, true, false, false, false, false, false, false, false, false] HT_ ?_; refine zpn (i := 5) (n := 42) #[true, true, true, true, true, true, false, false, false, false, false, false, false] HT_ ?_; refine zpn (i := 6) (n := 43) #[true, true, true, true, true, true, true, false, false, false, false, false, false] HT_ ?_; refine zpn (i := 7) (n := 44) #[true, true, true, true, true, true, true, true, false, false, false, false, false] HT_ ?_; refine zpn (i := 8) (n := 45) #[true, true, true, true, true, true, true, true, true, false, false, false, false] HT_ ?_; refine zpn (i := 9) (n := 46) #[true, true, true, true, true, true, true, true, true, true, false, false, false] HT_ ?_; refine zpn (i := 10) (n := 47) #[true, true, true, true, true, true, true, true, true, true, true, false, false] HT_ ?_; refine zpn (i := 11) (n := 48) #[true, true, true, true, true, true, true, true, true, true, true, true, false] HT_ ?_; refine zpu (i := 12) (n := 49) #[true, true, true, true, true, true, true, true, true, true, true, true, true] HT_ ?_; refine done_ (done_of HT_.out (by kernel_rfl)) ?_; try go_wp2
                   go_roundg kj11
                   case measure => have := HJ1.out; have := HK2.out; have := HJ11.out; omega
                   case rel => exact ⟨(wrap64 (x16_2 + 1)), zv, H', ⟨by have := HJ1.out; have := HK2.out; have := HJ11.out; omega⟩, ⟨zK BK115⟩, ⟨zB HB⟩⟩
           · rw [if_neg c11] at H; exact absurd H (by simp)
         · rw [if_neg c10] at H; exact absurd H (by simp)
       · rw [if_neg c9] at H; have c9b0 : decide (x16_2 < (l0_1.length : Int)) = false := decide_eq_false c9; clear c9; obtain rfl := Option.some.inj H; go_wp2; go_ret; exact ⟨by first | rfl | (simp [errW_none, errW_some] <;> rfl) | (simp [*, errW_none, errW_some] <;> rfl), zB HB⟩
end Go.Proofs.YtjmdlmogdbhdhaaDoor.P
namespace Go.Proofs.YtjmdlmogdbhdhaaDoor.P
open Go.RowKit Go.Proofs.YtjmdlmogdbhdhaaDoorW.PrintWords Go.Proofs.YtjmdlmogdbhdhaaDoorW.PrintLast Go.Proofs.YtjmdlmogdbhdhaaDoorW.PrintMore
attribute [local go_sem] max2_int min2_int max_two min_two max_three min_three max_four min_four
set_option linter.unusedVariables false
set_option linter.unusedSimpArgs false
def enforce_compare.f (k : Nat) (a0_0 : Int) (a0_1 : Int) (a1_0 : Int) (a1_1 : Int) : Option (Int) := (cmp_Compare_int.f a0_0 a1_0).bind fun t122 => ((cmp_Compare_int.f a0_1 a1_1).bind fun t123 => ((cmp_Or_int.f k (([t122, t123] : List Int))).bind fun t127 => (some t127)))
def enforce_compare.T1 : Bool × List (List Nat × List Nat) := (true, [([], []), ([0], [0]), ([], []), ([2], [2]), ([1, 3], [1, 3]), ([], []), ([5], [5]), ([], []), ([7], [7]), ([6, 8, 4], [6, 8]), ([4, 9], [4, 9]), ([10, 9], [10]), ([11, 11, 0, 1, 2, 3, 4, 5, 6, 7, 8, 9, 10, 11], [11])])
def enforce_compare.B1 : List Nat := [0, 1, 0, 4, 15, 0, 32, 0, 128, 511, 1023, 2047, 4095]
theorem enforce_compare.tab1 : rtab .any (opsOf Tryd.f43 1) = enforce_compare.T1 := by kernel_rfl
theorem enforce_compare.bits1 : waitsOk enforce_compare.T1.2 enforce_compare.B1 = true := by kernel_rfl
set_option maxHeartbeats 8000000 in
set_option maxRecDepth 100000 in
theorem enforce_compare.calls (k : Nat) (a0_0 : Int) (a0_1 : Int) (a1_0 : Int) (a1_1 : Int) (r : Int) (w : World) (h : enforce_compare.f k a0_0 a0_1 a1_0 a1_1 = some r) :
 Calls Tryd.prog 43 #[.agg #[.int .i64 a0_0, .int .i64 a0_1], .agg #[.int .i64 a1_0, .int .i64 a1_1]] w fun e w' => e = .returned (.int .i64 r) ∧ Below w.heap.size w w' := by
 have hu42 := Tryd.underlying42; have HB := Aside0.mk (Below.refl w.heap.size w); have H : ((cmp_Compare_int.f a0_0 a1_0).bind fun t122 => ((cmp_Compare_int.f a0_1 a1_1).bind fun t123 => ((cmp_Or_int.f k (([t122, t123] : List Int))).bind fun t127 => (some t127)))) = some r := h; clear h; replace H := Option.bind_eq_some_iff.mp H; obtain ⟨t122, A30, H⟩ := H; replace H : ((cmp_Compare_int.f a0_1 a1_1).bind fun t123 => ((cmp_Or_int.f k (([t122, t123] : List Int))).bind fun t127 => (some t127))) = some r := H; have A3 := Aside0.mk A30; clear A30; replace H := Option.bind_eq_some_iff.mp H; obtain ⟨t123, A40, H⟩ := H; replace H : ((cmp_Or_int.f k (([t122, t123] : List Int))).bind fun t127 => (some t127)) = some r := H; have A4 := Aside0.mk A40; clear A40; obtain ⟨y124, hy124⟩ : ∃ y_ : List Int, y_ = (([t122, t123] : List Int)) := ⟨_, rfl⟩; replace H : ((cmp_Or_int.f k y124).bind fun t127 => (some t127)) = some r := by first | (rw [hy124]; with_reducible exact H) | (have H2_ := (Option.bind_some _ _).symm.trans H; rw [hy124]; with_reducible exact H2_) | (have H2_ := (Option.bind_some _ _).symm.trans H; with_reducible exact H2_) | with_reducible exact H | (rw [hy124]; exact H) | exact H
 have Ny124 := Aside0.mk hy124; clear hy124; replace H := Option.bind_eq_some_iff.mp H; obtain ⟨t127, A50, H⟩ := H; replace H : (some t127) = some r := H; have A5 := Aside0.mk A50; clear A50; obtain rfl := Option.some.inj H; go_enter Tryd.func43, Tryd.ntmps43; try go_wp2_with (first | ((with_reducible refine gate_dst (N := 2) rfl ?_); refine zX (N := 2) (cs := #[.int .i64 a0_0, .int .i64 a0_1]) (t := 42) ?_; intro gb120 hg w6 hbox hb; have BK120 := Aside0.mk (hbox); have GW120 := Aside0.mk (zW hg HB); have GE120 := Aside0.mk (zW hg HB); replace HB := Aside0.mk (below_step (zB HB) hb); clear hb hbox hg) | ((with_reducible refine gate_dst (N := 3) rfl ?_); refine zX (N := 3) (cs := #[.int .i64 a1_0, .int .i64 a1_1]) (t := 42) ?_; intro gb121 hg w7 hbox hb; have BK121 := Aside0.mk (hbox); have GW121 := Aside0.mk (zW hg HB); have GE121 := Aside0.mk (zW hg HB); have NB120_121 := Aside0.mk (zNl hg BK120); have NB121_120 := Aside0.mk (zNr hg BK120); replace BK120 := Aside0.mk (zKb BK120 hb); replace HB := Aside0.mk (below_step (zB HB) hb); clear hb hbox hg))
 replace BK120 := Aside0.mk (blk_drew BK120.out); replace BK121 := Aside0.mk (blk_drew BK121.out); replace HB := Aside0.mk (below_drew1 HB.out); refine start_ (n := 13) (S := fun w' => w'.cell? ⟨gb120, 0, none⟩ = some (.int .i64 a0_0) ∧ w'.cell? ⟨gb120, 1, none⟩ = some (.int .i64 a0_1) ∧ w'.cell? ⟨gb121, 0, none⟩ = some (.int .i64 a1_0) ∧ w'.cell? ⟨gb121, 1, none⟩ = some (.int .i64 a1_1)) (ds := []) #[false, false, false, false, false, false, false, false, false, false, false, false, false] (by kernel_rfl) rfl rfl ⟨(blk_cell BK120.out 0).trans rfl, (blk_cell BK120.out 1).trans rfl, (blk_cell BK121.out 0).trans rfl, (blk_cell BK121.out 1).trans rfl⟩ (fun hHeld => ?_); refine with_tabW enforce_compare.tab1 enforce_compare.bits1 (fun HT_ HW_ => ?_); generalize w7.drew = w8 at BK120 BK121 HB hHeld ⊢; refine zpu (i := 0) (n := 5) #[true, false, false, false, false, false, false, false, false, false, false, false, false] HT_ ?_; refine zpu (i := 2) (n := 7) #[true, false, true, false, false, false, false, false, false, false, false, false, false] HT_ ?_; refine zpu (i := 5) (n := 10) #[true, false, true, false, false, true, false, false, false, false, false, false, false] HT_ ?_; refine zpu (i := 7) (n := 12) #[true, false, true, false, false, true, false, true, false, false, false, false, false] HT_ ?_; refine zt4 (i := 1) (n := 6) #[true, true, true, false, false, true, false, true, false, false, false, false, false] HT_ HW_ hHeld ?_; refine zt4 (i := 3) (n := 8) #[true, true, true, true, false, true, false, true, false, false, false, false, false] HT_ HW_ hHeld ?_; refine zt4 (i := 6) (n := 11) #[true, true, true, true, false, true, true, true, false, false, false, false, false] HT_ HW_ hHeld ?_; refine zt4 (i := 8) (n := 13) #[true, true, true, true, false, true, true, true, true, false, false, false, false] HT_ HW_ hHeld ?_; refine one_ (i := 4) (N := some 9) #[true, true, true, true, true, true, true, true, true, false, false, false, false] rfl rfl (one_of HT_.out (by kernel_rfl)) (by decide) (fun K hK => ?_); refine goes_ Tryd.func54 (by kernel_rfl) rfl #[.int .i64 a0_0, .int .i64 a1_0] (by rfl) rfl rfl (by (try simp only [List.map_toArray, List.map_cons, List.map_nil]); first | done | rfl | (simp only [List.length_drop, List.length_take]; rfl)) ?_; with_reducible refine (cmp_Compare_int.calls a0_0 a1_0 t122 _ A3.out).mono ?_
 rintro e w' ⟨rfl, ⟨nd, rfl⟩⟩; refine ⟨_, rfl, ?_⟩; refine hK.out _ _ ⟨(blk_cell BK120.out 0).trans rfl, (blk_cell BK120.out 1).trans rfl, (blk_cell BK121.out 0).trans rfl, (blk_cell BK121.out 1).trans rfl⟩ (fun hHeld => ?_); clear hK K; refine znn 9 ?_; refine one_ (i := 9) (N := some 14) #[true, true, true, true, true, true, true, true, true, true, false, false, false] rfl rfl (one_of HT_.out (by kernel_rfl)) (by decide) (fun K hK => ?_); refine goes_ Tryd.func54 (by kernel_rfl) rfl #[.int .i64 a0_1, .int .i64 a1_1] (by rfl) rfl rfl (by (try simp only [List.map_toArray, List.map_cons, List.map_nil]); first | done | rfl | (simp only [List.length_drop, List.length_take]; rfl)) ?_; with_reducible refine (cmp_Compare_int.calls a0_1 a1_1 t123 _ A4.out).mono ?_
 rintro e w' ⟨rfl, ⟨nd, rfl⟩⟩; refine ⟨_, rfl, ?_⟩; refine hK.out _ _ ⟨(blk_cell BK120.out 0).trans rfl, (blk_cell BK120.out 1).trans rfl, (blk_cell BK121.out 0).trans rfl, (blk_cell BK121.out 1).trans rfl⟩ (fun hHeld => ?_); clear hK K; refine znn 14 ?_; refine one_ (i := 10) (N := some 15) #[true, true, true, true, true, true, true, true, true, true, true, false, false] rfl rfl (one_of HT_.out (by kernel_rfl)) (by decide) (fun K hK => ?_); refine Kd.R_lit_step (Kd.int .i64) _ 3 ?hg (N := 15) ?hd (xs := ([t122, t123] : List Int)) (inner := [.int .i64 t122, .int .i64 t123]) (ok := fun _ => True) (okp := fun _ => True) ?hr ?hp (fun _ hk => hk) trivial (Below.refl _ _) (Nat.le_refl _) (by simp) ?_; (case hd => rfl); (case hg => rfl); (case hr => first | (go_simp; done) | (go_simp; rfl)); (case hp => exact (Reps.one (show Kd.M (Kd.int .i64) _ _ _ t122 [.int .i64 t122] from rfl) (Reps.one (show Kd.M (Kd.int .i64) _ _ _ t123 [.int .i64 t123] from rfl) (Reps.none _ _)))); intro v125 w9 ho10 hb hg_ hnew_; clear hg_ hnew_; (first | rw [← Ny124.out] at ho10 | (simp only [Int.reduceToNat] at ho10; rw [← Ny124.out] at ho10)); have HO126 := Aside0.mk (Kd.R_lower ho10 (below_size (zB HB))); replace BK120 := Aside0.mk (zKb BK120 hb); replace BK121 := Aside0.mk (zKb BK121 hb); replace HB := Aside0.mk (below_step (zB HB) hb); clear hb ho10; obtain ⟨Ao11, co11, eo11⟩ := Kd.R_slice HO126.out; (first | subst eo11 | (injection eo11 with f1_ f2_ f3_; have f4_ := f1_.symm; have f5_ := f3_.symm; clear f1_ f2_ f3_; subst f4_; subst f5_)); refine hK.out _ _ ⟨(blk_cell BK120.out 0).trans rfl, (blk_cell BK120.out 1).trans rfl, (blk_cell BK121.out 0).trans rfl, (blk_cell BK121.out 1).trans rfl⟩ (fun hHeld => ?_); clear hK K; refine znn 15 ?_; refine one_ (i := 11) (N := some 16) #[true, true, true, true, true, true, true, true, true, true, true, true, false] rfl rfl (one_of HT_.out (by kernel_rfl)) (by decide) (fun K hK => ?_); refine goes_ Tryd.func53 (by kernel_rfl) rfl #[.slice Ao11 y124.length co11] (by rfl) rfl rfl (by (try simp only [List.map_toArray, List.map_cons, List.map_nil]); first | done | rfl | (simp only [List.length_drop, List.length_take]; rfl)) ?_; with_reducible refine (cmp_Or_int.calls k _ _ y124 t127 _ ?side1 ?side2 A5.out).mono ?_
 (case side1 => repeat (first | exact (Kd.R_reads' HO126.out).2.2 | (with_reducible refine Kd.C_alloc ?_ _) | (with_reducible refine Kd.C_drewN ?_ _) | (with_reducible refine Kd.C_drew ?_))); (case side2 => exact (Kd.R_reads' HO126.out).2.1); rintro e w' ⟨rfl, ⟨nd, rfl⟩⟩; refine ⟨_, rfl, ?_⟩; refine hK.out _ _ ⟨(blk_cell BK120.out 0).trans rfl, (blk_cell BK120.out 1).trans rfl, (blk_cell BK121.out 0).trans rfl, (blk_cell BK121.out 1).trans rfl⟩ (fun hHeld => ?_); clear hK K; refine znn 16 ?_; refine zpu (i := 12) (n := 4) #[true, true, true, true, true, true, true, true, true, true, true, true, true] HT_ ?_; refine done_ (done_of HT_.out (by kernel_rfl)) ?_; try go_wp2
 go_ret; exact ⟨by first | rfl | (simp [errW_none, errW_some] <;> rfl) | (simp [*, errW_none, errW_some] <;> rfl), zB HB⟩
end Go.Proofs.YtjmdlmogdbhdhaaDoor.P
namespace Go.Proofs.YtjmdlmogdbhdhaaDoor.P
open Go.RowKit Go.Proofs.YtjmdlmogdbhdhaaDoorW.PrintWords Go.Proofs.YtjmdlmogdbhdhaaDoorW.PrintLast Go.Proofs.YtjmdlmogdbhdhaaDoorW.PrintMore
attribute [local go_sem] max2_int min2_int max_two min_two max_three min_three max_four min_four
set_option linter.unusedVariables false
set_option linter.unusedSimpArgs false
open Go.Sort in
/-- draws and new blocks alone. -/
def Grows (w w' : World) : Prop := ∃ q os', w' = grow (w.drewN q) os'
theorem grow_drewN_ (w : World) (os : Array Obj) (n : Nat) : (Go.Sort.grow w os).drewN n = Go.Sort.grow (w.drewN n) os := rfl
theorem Grows.refl (w : World) : Grows w w := ⟨0, #[], by simp; rfl⟩
theorem Grows.drewN {w w' : World} (h : Grows w w') (n : Nat) : Grows w (w'.drewN n) := by
 obtain ⟨q, os, rfl⟩ := h; exact ⟨q + n, os, by rw [grow_drewN_, World.drewN_drewN]⟩
theorem Grows.drew {w w' : World} (h : Grows w w') : Grows w w'.drew := h.drewN 1
theorem Grows.alloc {w w' : World} (h : Grows w w') (o : Obj) : Grows w (w'.alloc o) := by
 obtain ⟨q, os, rfl⟩ := h; exact ⟨q, os ++ #[o], by rw [Go.Sort.alloc_eq_grow, Go.Sort.grow_grow]⟩
def cmpI (x y : Int) : Int := if x < y then -1 else if x > y then 1 else 0
def orI (a b : Int) : Int := if a ≠ 0 then a else b
def cmpP (x y : S42) : Int := orI (cmpI x.f0 y.f0) (cmpI x.f1 y.f1)
theorem cmpI_f (x y : Int) : cmp_Compare_int.f x y = some (cmpI x y) := by
 unfold cmp_Compare_int.f cmp_isNaN_int.f cmpI; simp only [bne_self_eq_false, Option.bind_some, Bool.false_eq_true, if_false]; by_cases h : x < y
 · rw [if_pos h, if_pos h]
 · rw [if_neg h, if_neg h]; by_cases h2 : x > y
   · rw [if_pos h2, if_pos h2]
   · rw [if_neg h2, if_neg h2]
theorem cmpOr_f (a b : Int) : cmp_Or_int.f 3 [a, b] = some (orI a b) := by
 have w1 : wrap64 1 = 1 := by unfold wrap64; omega
 have w2 : wrap64 2 = 2 := by unfold wrap64; omega
 unfold cmp_Or_int.f orI; by_cases ha : a = 0
 · subst ha; by_cases hb : b = 0
   · subst hb; simp [cmp_Or_int.l0, w1, w2, rd]
   · simp [cmp_Or_int.l0, w1, w2, rd, hb]
 · simp [cmp_Or_int.l0, rd, ha]
theorem cmp_calls (x y : Int) (w : World) : Calls Tryd.prog 54 #[.int .i64 x, .int .i64 y] w fun e w' => e = .returned (.int .i64 (cmpI x y)) ∧ Drawn0 w w' := cmp_Compare_int.calls x y _ w (cmpI_f x y)
theorem or_calls (a b : Int) (g : Nat) (w : World) (h0 : w.cell? ⟨g, 0, none⟩ = some (.int .i64 a)) (h1 : w.cell? ⟨g, 1, none⟩ = some (.int .i64 b)) :
 Calls Tryd.prog 53 #[.slice (some ⟨g, 0, none⟩) 2 2] w fun e w' => e = .returned (.int .i64 (orI a b)) ∧ Drawn0 w w' := by
 refine cmp_Or_int.calls 3 (some ⟨g, 0, none⟩) 2 [a, b] _ w ⟨rfl, by simp, fun _ => ⟨_, rfl, ?_⟩⟩ (by simp) (cmpOr_f a b); intro j p hp; match j, hp with
 | 0, hp =>
  obtain rfl : a = p := by simpa using hp
  refine ⟨[.int .i64 a], rfl, rfl, ?_⟩; intro i u hu; match i, hu with
  | 0, hu => obtain rfl : Value.int .i64 a = u := by simpa using hu
             exact h0
 | 1, hp =>
  obtain rfl : b = p := by simpa using hp
  refine ⟨[.int .i64 b], rfl, rfl, ?_⟩; intro i u hu; match i, hu with
  | 0, hu => obtain rfl : Value.int .i64 b = u := by simpa using hu
             exact h1
section
variable {P : Program} {ops : Array Oper} {o : Oper} {a : Act} {Kc : Act → World → Prop} {Q : Exit → Act → World → Prop}
theorem lit_step {W : World} {inner : Array Value} {e : TypeId} {n : Nat} (hw : Region.wanted o (yielded ops a.tmps) = true) (hrun : (execOp a.eval o).run P W = .ok (.value (.slice (some ⟨W.heap.size, 0, none⟩) n n)) (W.alloc (.cells inner e)))
 (h : Kc (a.put o.dst (.slice (some ⟨W.heap.size, 0, none⟩) n n)) (W.alloc (.cells inner e))) : if Region.wanted o (yielded ops a.tmps) = true then Oper.wp P o a W Kc Q else Kc (a.put o.dst undef) W := event_step hw hrun h
end
theorem new_cell' (W : World) (cs : Array Value) (t : TypeId) (g i : Nat) (v : Value) (hg : g = W.heap.size) (h : cs[i]? = some v) : (W.alloc (.cells cs t)).cell? ⟨g, i, none⟩ = some v := by
 subst hg; exact (blk_cell (g := W.heap.size) (blk_new W (.cells cs t (0, 0))) i).trans h
theorem or_new (a b : Int) (g : Nat) (W : World) (hg : g = W.heap.size) :
 Calls Tryd.prog 53 #[.slice (some ⟨g, 0, none⟩) 2 2] (W.alloc (.cells #[.int .i64 a, .int .i64 b] 3)) fun e w' => e = .returned (.int .i64 (orI a b)) ∧ Drawn0 (W.alloc (.cells #[.int .i64 a, .int .i64 b] 3)) w' :=
 or_calls a b g _ (new_cell' _ _ _ _ _ _ hg rfl) (new_cell' _ _ _ _ _ _ hg rfl)
set_option maxHeartbeats 1000000 in
set_option maxRecDepth 100000 in
theorem compare_grows (a0_0 a0_1 a1_0 a1_1 : Int) (w : World) :
 Calls Tryd.prog 43 #[.agg #[.int .i64 a0_0, .int .i64 a0_1], .agg #[.int .i64 a1_0, .int .i64 a1_1]] w fun e w' => e = .returned (.int .i64 (orI (cmpI a0_0 a1_0) (cmpI a0_1 a1_1))) ∧ Grows w w' := by
 have hu42 := Tryd.underlying42; go_enter Tryd.func43, Tryd.ntmps43; go_wp2_with fail; have BK120 := Aside0.mk (blk_drew (blk_alloc (blk_new w (.cells #[.int .i64 a0_0, .int .i64 a0_1] 42 (0, 0))) (.cells #[.int .i64 a1_0, .int .i64 a1_1] 42 (0, 0)))); have BK121 := Aside0.mk (blk_drew (blk_new (w.alloc (.cells #[.int .i64 a0_0, .int .i64 a0_1] 42 (0, 0))) (.cells #[.int .i64 a1_0, .int .i64 a1_1] 42 (0, 0)))); have HG : Grows w ((w.alloc (.cells #[.int .i64 a0_0, .int .i64 a0_1] 42)).alloc (.cells #[.int .i64 a1_0, .int .i64 a1_1] 42)).drew := (((Grows.refl w).alloc _).alloc _).drew; have hs : (w.alloc (.cells #[.int .i64 a0_0, .int .i64 a0_1] 42 (0, 0))).heap.size = w.heap.size + 1 := by simp
 rw [hs] at BK121; clear hs; generalize w.heap.size + 1 = gb121 at BK121 ⊢; generalize w.heap.size = gb120 at BK120 ⊢; refine start_ (n := 13) (S := fun w' => w'.cell? ⟨gb120, 0, none⟩ = some (.int .i64 a0_0) ∧ w'.cell? ⟨gb120, 1, none⟩ = some (.int .i64 a0_1) ∧ w'.cell? ⟨gb121, 0, none⟩ = some (.int .i64 a1_0) ∧ w'.cell? ⟨gb121, 1, none⟩ = some (.int .i64 a1_1)) (ds := []) #[false, false, false, false, false, false, false, false, false, false, false, false, false] (by kernel_rfl) rfl rfl ⟨(blk_cell BK120.out 0).trans rfl, (blk_cell BK120.out 1).trans rfl, (blk_cell BK121.out 0).trans rfl, (blk_cell BK121.out 1).trans rfl⟩ (fun hHeld => ?_); refine with_tabW enforce_compare.tab1 enforce_compare.bits1 (fun HT_ HW_ => ?_); generalize ((w.alloc (.cells #[.int .i64 a0_0, .int .i64 a0_1] 42)).alloc (.cells #[.int .i64 a1_0, .int .i64 a1_1] 42)).drew = w8 at BK120 BK121 HG hHeld ⊢; refine zpu (i := 0) (n := 5) #[true, false, false, false, false, false, false, false, false, false, false, false, false] HT_ ?_; refine zpu (i := 2) (n := 7) #[true, false, true, false, false, false, false, false, false, false, false, false, false] HT_ ?_; refine zpu (i := 5) (n := 10) #[true, false, true, false, false, true, false, false, false, false, false, false, false] HT_ ?_; refine zpu (i := 7) (n := 12) #[true, false, true, false, false, true, false, true, false, false, false, false, false] HT_ ?_; refine zt4 (i := 1) (n := 6) #[true, true, true, false, false, true, false, true, false, false, false, false, false] HT_ HW_ hHeld ?_; refine zt4 (i := 3) (n := 8) #[true, true, true, true, false, true, false, true, false, false, false, false, false] HT_ HW_ hHeld ?_; refine zt4 (i := 6) (n := 11) #[true, true, true, true, false, true, true, true, false, false, false, false, false] HT_ HW_ hHeld ?_; refine zt4 (i := 8) (n := 13) #[true, true, true, true, false, true, true, true, true, false, false, false, false] HT_ HW_ hHeld ?_; refine one_ (i := 4) (N := some 9) #[true, true, true, true, true, true, true, true, true, false, false, false, false] rfl rfl (one_of HT_.out (by kernel_rfl)) (by decide) (fun K hK => ?_); refine goes_ Tryd.func54 (by kernel_rfl) rfl #[.int .i64 a0_0, .int .i64 a1_0] (by rfl) rfl rfl (by (try simp only [List.map_toArray, List.map_cons, List.map_nil]); first | done | rfl | (simp only [List.length_drop, List.length_take]; rfl)) ?_; with_reducible refine (cmp_calls a0_0 a1_0 _).mono ?_
 rintro e w' ⟨rfl, ⟨nd, rfl⟩⟩; refine ⟨_, rfl, ?_⟩; refine hK.out _ _ ⟨(blk_cell BK120.out 0).trans rfl, (blk_cell BK120.out 1).trans rfl, (blk_cell BK121.out 0).trans rfl, (blk_cell BK121.out 1).trans rfl⟩ (fun hHeld => ?_); clear hK K; refine znn 9 ?_; refine one_ (i := 9) (N := some 14) #[true, true, true, true, true, true, true, true, true, true, false, false, false] rfl rfl (one_of HT_.out (by kernel_rfl)) (by decide) (fun K hK => ?_); refine goes_ Tryd.func54 (by kernel_rfl) rfl #[.int .i64 a0_1, .int .i64 a1_1] (by rfl) rfl rfl (by (try simp only [List.map_toArray, List.map_cons, List.map_nil]); first | done | rfl | (simp only [List.length_drop, List.length_take]; rfl)) ?_; with_reducible refine (cmp_calls a0_1 a1_1 _).mono ?_
 rintro e w' ⟨rfl, ⟨nd, rfl⟩⟩; refine ⟨_, rfl, ?_⟩; refine hK.out _ _ ⟨(blk_cell BK120.out 0).trans rfl, (blk_cell BK120.out 1).trans rfl, (blk_cell BK121.out 0).trans rfl, (blk_cell BK121.out 1).trans rfl⟩ (fun hHeld => ?_); clear hK K; refine znn 14 ?_; refine one_ (i := 10) (N := some 15) #[true, true, true, true, true, true, true, true, true, true, true, false, false] rfl rfl (one_of HT_.out (by kernel_rfl)) (by decide) (fun K hK => ?_); refine lit_step (inner := #[.int .i64 (cmpI a0_0 a1_0), .int .i64 (cmpI a0_1 a1_1)]) (e := 3) (n := 2) rfl ?hr ?_; (case hr => first | (go_simp; done) | (go_simp; rfl)); refine hK.out _ _ ⟨(blk_cell (blk_alloc BK120.out _) 0).trans rfl, (blk_cell (blk_alloc BK120.out _) 1).trans rfl, (blk_cell (blk_alloc BK121.out _) 0).trans rfl, (blk_cell (blk_alloc BK121.out _) 1).trans rfl⟩ (fun hHeld => ?_); clear hK K; refine znn 15 ?_; refine one_ (i := 11) (N := some 16) #[true, true, true, true, true, true, true, true, true, true, true, true, false] rfl rfl (one_of HT_.out (by kernel_rfl)) (by decide) (fun K hK => ?_); refine goes_ Tryd.func53 (by kernel_rfl) rfl #[.slice (some ⟨_, 0, none⟩) 2 2] (by rfl) rfl rfl (by (try simp only [List.map_toArray, List.map_cons, List.map_nil]); first | done | rfl) ?_; with_reducible refine (or_new (cmpI a0_0 a1_0) (cmpI a0_1 a1_1) _ ((w8.drewN _).drewN _) rfl).mono ?_
 rintro e w' ⟨rfl, ⟨nd, rfl⟩⟩; refine ⟨_, rfl, ?_⟩; refine hK.out _ _ ⟨(blk_cell (blk_alloc BK120.out _) 0).trans rfl, (blk_cell (blk_alloc BK120.out _) 1).trans rfl, (blk_cell (blk_alloc BK121.out _) 0).trans rfl, (blk_cell (blk_alloc BK121.out _) 1).trans rfl⟩ (fun hHeld => ?_); clear hK K; refine znn 16 ?_; refine zpu (i := 12) (n := 4) #[true, true, true, true, true, true, true, true, true, true, true, true, true] HT_ ?_; refine done_ (done_of HT_.out (by kernel_rfl)) ?_; try go_wp2
 go_ret; exact ⟨rfl, by repeat (first | exact HG | apply Grows.alloc | apply Grows.drewN | apply Grows.drew)⟩
section sorting
open Go.Shelf Go.RowKit Go.Lib Go.Sort
def Tryd.sortP_ren : Go.Shelf.Ren := ⟨fun | 6 => 42 | 15 => 75 | 14 => 74 | 28 => 96 | 29 => 97 | 20 => 88 | 21 => 89 | 22 => 90 | 23 => 91 | 24 => 92 | 25 => 93 | 26 => 94 | 27 => 95 | 46 => 98 | 47 => 99 | 48 => 100 | 49 => 101 | 50 => 102 | 57 => 103 | n => n, fun | 22 => 22 | 24 => 42 | 25 => 73 | 3 => 3 | 39 => 57 | 0 => 0 | 53 => 114 | 55 => 56 | 4 => 4 | 46 => 107 | 45 => 106 | 50 => 111 | 5 => 5 | 9 => 9 | 66 => 116 | 70 => 120 | 76 => 122 | 77 => 123 | n => n, fun | n => n⟩
theorem Tryd.sortP : Go.Proofs.SlLaysF0.n6 Tryd.prog Tryd.sortP_ren := {
 mixed := by kernel_rfl,
 f6 := ⟨Tryd.f42.name, by decide, Tryd.func42.trans (congrArg some (by kernel_rfl))⟩,
 f14 := ⟨Tryd.f74.name, by decide, Tryd.func74.trans (congrArg some (by kernel_rfl))⟩,
 f15 := Tryd.func75.trans (congrArg some (by kernel_rfl)),
 f20 := ⟨Tryd.f88.name, by decide, Tryd.func88.trans (congrArg some (by kernel_rfl))⟩,
 f21 := ⟨Tryd.f89.name, by decide, Tryd.func89.trans (congrArg some (by kernel_rfl))⟩,
 f22 := ⟨Tryd.f90.name, by decide, Tryd.func90.trans (congrArg some (by kernel_rfl))⟩,
 f23 := ⟨Tryd.f91.name, by decide, Tryd.func91.trans (congrArg some (by kernel_rfl))⟩,
 f24 := ⟨Tryd.f92.name, by decide, Tryd.func92.trans (congrArg some (by kernel_rfl))⟩,
 f25 := ⟨Tryd.f93.name, by decide, Tryd.func93.trans (congrArg some (by kernel_rfl))⟩,
 f26 := ⟨Tryd.f94.name, by decide, Tryd.func94.trans (congrArg some (by kernel_rfl))⟩,
 f27 := ⟨Tryd.f95.name, by decide, Tryd.func95.trans (congrArg some (by kernel_rfl))⟩,
 f28 := Tryd.func96.trans (congrArg some (by kernel_rfl)),
 f29 := Tryd.func97.trans (congrArg some (by kernel_rfl)),
 f46 := ⟨Tryd.f98.name, by decide, Tryd.func98.trans (congrArg some (by kernel_rfl))⟩,
 f47 := Tryd.func99.trans (congrArg some (by kernel_rfl)),
 f48 := Tryd.func100.trans (congrArg some (by kernel_rfl)),
 f49 := ⟨Tryd.f101.name, by decide, Tryd.func101.trans (congrArg some (by kernel_rfl))⟩,
 f50 := ⟨Tryd.f102.name, by decide, Tryd.func102.trans (congrArg some (by kernel_rfl))⟩,
 f57 := ⟨Tryd.f103.name, by decide, Tryd.func103.trans (congrArg some (by kernel_rfl))⟩,
 t0 := Tryd.underlying0,
 a0 := Tryd.isAgg0,
 z0 := Tryd.sizeOf0,
 v0 := Tryd.zeroValue0,
 t3 := Tryd.underlying3,
 a3 := Tryd.isAgg3,
 z3 := Tryd.sizeOf3,
 v3 := Tryd.zeroValue3,
 t4 := Tryd.underlying4,
 a4 := Tryd.isAgg4,
 z4 := Tryd.sizeOf4,
 v4 := Tryd.zeroValue4,
 t5 := Tryd.underlying5,
 a5 := Tryd.isAgg5,
 z5 := Tryd.sizeOf5,
 v5 := Tryd.zeroValue5,
 t9 := Tryd.underlying9,
 a9 := Tryd.isAgg9,
 z9 := Tryd.sizeOf9,
 v9 := Tryd.zeroValue9,
 t22 := Tryd.underlying22,
 a22 := Tryd.isAgg22,
 z22 := Tryd.sizeOf22,
 v22 := Tryd.zeroValue22,
 t25 := Tryd.underlying73,
 a25 := Tryd.isAgg73,
 z25 := Tryd.sizeOf73,
 v25 := Tryd.zeroValue73,
 t39 := Tryd.underlying57,
 a39 := Tryd.isAgg57,
 z39 := Tryd.sizeOf57,
 v39 := Tryd.zeroValue57,
 t45 := Tryd.underlying106,
 a45 := Tryd.isAgg106,
 z45 := Tryd.sizeOf106,
 v45 := Tryd.zeroValue106,
 t46 := Tryd.underlying107,
 a46 := Tryd.isAgg107,
 z46 := Tryd.sizeOf107,
 v46 := Tryd.zeroValue107,
 t50 := Tryd.underlying111,
 a50 := Tryd.isAgg111,
 z50 := Tryd.sizeOf111,
 v50 := Tryd.zeroValue111,
 t53 := Tryd.underlying114,
 a53 := Tryd.isAgg114,
 z53 := Tryd.sizeOf114,
 v53 := Tryd.zeroValue114,
 t55 := Tryd.underlying56,
 a55 := Tryd.isAgg56,
 z55 := Tryd.sizeOf56,
 v55 := Tryd.zeroValue56,
 t66 := Tryd.underlying116,
 a66 := Tryd.isAgg116,
 z66 := Tryd.sizeOf116,
 v66 := Tryd.zeroValue116,
 t70 := Tryd.underlying120,
 a70 := Tryd.isAgg120,
 z70 := Tryd.sizeOf120,
 v70 := Tryd.zeroValue120,
 t76 := Tryd.underlying122,
 a76 := Tryd.isAgg122,
 z76 := Tryd.sizeOf122,
 v76 := Tryd.zeroValue122,
 t77 := Tryd.underlying123,
 a77 := Tryd.isAgg123,
 z77 := Tryd.sizeOf123,
 v77 := Tryd.zeroValue123 }
instance : Inhabited S42 := ⟨z42⟩
def encP (x : S42) : List Value := [.int .i64 x.f0, .int .i64 x.f1]
theorem cmpP_lt (x y : S42) : cmpP x y < 0 ↔ (x.f0 < y.f0 ∨ x.f0 = y.f0 ∧ x.f1 < y.f1) := by
 unfold cmpP orI cmpI; by_cases h1 : x.f0 < y.f0
 · simp [h1]
 · by_cases h2 : x.f0 > y.f0
   · simp [h1, h2]; omega
   · have e : x.f0 = y.f0 := by omega
     by_cases h3 : x.f1 < y.f1
     · simp [e, h3]
     · by_cases h4 : x.f1 > y.f1
       · simp [e, h3, h4]
       · simp [e, h3, h4]
theorem ltP (x y : S42) : ltOf cmpP x y = decide (x.f0 < y.f0 ∨ x.f0 = y.f0 ∧ x.f1 < y.f1) := by
 unfold ltOf; exact decide_eq_decide.2 (cmpP_lt x y)
theorem swoP : SWO (ltOf cmpP) where
 irrefl x := by rw [ltP]; simp
 trans x y z h1 h2 := by rw [ltP] at *; simp at *; omega
 ntrans x y z h1 h2 := by rw [ltP] at *; simp at *; omega
theorem totP (x y : S42) (h1 : ltOf cmpP x y = false) (h2 : ltOf cmpP y x = false) : x = y := by
 rw [ltP] at h1 h2; simp at h1 h2; cases x; cases y; simp at *; omega
/-- The order of pairs. -/
def leP (x y : S42) : Bool := decide (x.f0 < y.f0 ∨ x.f0 = y.f0 ∧ x.f1 ≤ y.f1)
theorem leP_eq : (fun x y => !ltOf cmpP y x) = leP := by
 funext x y; rw [ltP, leP, ← decide_not]; exact decide_eq_decide.2 (by omega)
theorem cmpLaysP (blk off size : Nat) (w : World) : CmpLays Tryd.prog 43 #[] encP 2 cmpP blk off size w :=
 fun _ _ _ _ x y => compare_grows x.f0 x.f1 y.f0 y.f1 _
theorem leP_trans (a b c : S42) (h1 : leP a b = true) (h2 : leP b c = true) : leP a c = true := by
 simp [leP] at *; omega
theorem leP_total (a b : S42) : (leP a b || leP b a) = true := by
 simp [leP]; omega
theorem leP_anti (a b : S42) (h1 : leP a b = true) (h2 : leP b a = true) : a = b := by
 cases a; cases b; simp [leP] at *; omega
theorem sort_perm {l l' : List S42} (h : l.Perm l') : l.mergeSort leP = l'.mergeSort leP :=
 List.Perm.eq_of_pairwise (le := fun x y => leP x y = true) (fun a b _ _ h1 h2 => leP_anti a b h1 h2) (List.pairwise_mergeSort leP_trans leP_total l) (List.pairwise_mergeSort leP_trans leP_total l') ((List.mergeSort_perm _ _).trans (h.trans (List.mergeSort_perm _ _).symm))
def insP (x : S42) : List S42 → List S42
 | [] => [x]
 | y :: r => if leP x y = true then x :: y :: r else y :: insP x r
def isP : List S42 → List S42
 | [] => []
 | x :: r => insP x (isP r)
theorem insP_perm (x : S42) : ∀ l, (insP x l).Perm (x :: l)
 | [] => List.Perm.refl _
 | y :: r => by
  unfold insP
  split
  · exact List.Perm.refl _
  · exact ((insP_perm x r).cons y).trans (List.Perm.swap x y r)
theorem isP_perm : ∀ l, (isP l).Perm l
 | [] => List.Perm.refl _
 | x :: r => (insP_perm x (isP r)).trans ((isP_perm r).cons x)
theorem insP_ord (x : S42) : ∀ l, l.Pairwise (fun a b => leP a b = true) → (insP x l).Pairwise (fun a b => leP a b = true)
 | [], _ => List.pairwise_singleton _ _
 | y :: r, h => by
  unfold insP
  have h' := List.pairwise_cons.1 h
  split
  · rename_i hx
    refine List.pairwise_cons.2 ⟨fun z hz => ?_, h⟩
    rcases List.mem_cons.1 hz with rfl | hz
    · exact hx
    · exact leP_trans _ _ _ hx (h'.1 z hz)
  · rename_i hx
    refine List.pairwise_cons.2 ⟨fun z hz => ?_, insP_ord x r h'.2⟩
    rcases List.mem_cons.1 ((insP_perm x r).mem_iff.1 hz) with rfl | hz
    · have := leP_total z y
      simp only [Bool.or_eq_true] at this
      exact this.resolve_left hx
    · exact h'.1 z hz
theorem isP_ord : ∀ l, (isP l).Pairwise (fun a b => leP a b = true)
 | [] => List.Pairwise.nil
 | x :: r => insP_ord x _ (isP_ord r)
theorem isP_eq (l : List S42) : isP l = l.mergeSort leP :=
 List.Perm.eq_of_pairwise (le := fun x y => leP x y = true) (fun a b _ _ h1 h2 => leP_anti a b h1 h2) (isP_ord l) (List.pairwise_mergeSort leP_trans leP_total l) ((isP_perm l).trans (List.mergeSort_perm l leP).symm)
def api_Pair_42.f (l0 : List S42) : Option (List S42) := if l0.length < 1000000000 then some (isP l0) else none
theorem pair_cells {w : World} {base : Nat} {ok : Nat → Prop} {l : List S42} {inner : List Value} (h : Reps (k42.M w base ok) 2 l inner) (j : Nat) (x : S42) (hx : l[j]? = some x) :
 inner[j * 2]? = some (.int .i64 x.f0) ∧ inner[j * 2 + 1]? = some (.int .i64 x.f1) := by
 have h2 := k42_openM (h.2 j x hx); have a0 : ((inner.drop (j * 2)).take 2)[0]? = some (.int .i64 x.f0) := by rw [h2]; rfl
 have a1 : ((inner.drop (j * 2)).take 2)[1]? = some (.int .i64 x.f1) := by rw [h2]; rfl
 simp [List.getElem?_take, List.getElem?_drop] at a0 a1; exact ⟨a0, a1⟩
theorem flat_get (l : List S42) (j : Nat) (x : S42) (hx : l[j]? = some x) : (flatK encP 2 l.toArray)[j * 2]! = .int .i64 x.f0 ∧ (flatK encP 2 l.toArray)[j * 2 + 1]! = .int .i64 x.f1 := by
 obtain ⟨hj, hx'⟩ := List.getElem?_eq_some_iff.1 hx; have e : l.toArray[j]! = x := by simp [hj, hx']
 refine ⟨?_, ?_⟩
 · rw [get_flatK _ _ _ _ (by simp; omega), show j * 2 / 2 = j by omega, show j * 2 % 2 = 0 by omega, e]; rfl
 · rw [get_flatK _ _ _ _ (by simp; omega), show (j * 2 + 1) / 2 = j by omega, show (j * 2 + 1) % 2 = 1 by omega, e]; rfl
theorem flat_cells {w : World} {base : Nat} {ok : Nat → Prop} {l : List S42} {inner : List Value} (h : Reps (k42.M w base ok) 2 l inner) (t : Nat) (ht : t < l.length * 2) :
 inner[t]? = some (flatK encP 2 l.toArray)[t]! := by
 have hj : t / 2 < l.length := by omega
 have hx : l[t / 2]? = some l[t / 2] := List.getElem?_eq_getElem hj; have a := pair_cells h _ _ hx; have b := flat_get l _ _ hx; rcases Nat.mod_two_eq_zero_or_one t with m | m
 · have e : t / 2 * 2 = t := by omega
   rw [e] at a b; rw [a.1, b.1]
 · have e : t / 2 * 2 + 1 = t := by omega
   rw [e] at a b; rw [a.2, b.2]
theorem put_get (F cur : Array Value) (k : Nat) (hk : k < F.size) (hc : F.size ≤ cur.size) : (putCells id 0 F cur)[k]? = some F[k]! := by
 simp only [putCells, Array.getElem?_mapIdx]; rw [Array.getElem?_eq_getElem (by omega)]; simp [hk]
theorem sort_heap (w : World) (g n : Nat) (F : Array Value) (os : Array Obj) (cur : Array Value) (t : TypeId) (hh : w.heap[g]? = some (.cells cur t (0, 0))) :
 (grow (putRow id (Go.Sort.ahead w n) g 0 F) os).heap[g]? = some (.cells (putCells id 0 F cur) t (0, 0)) := by
 have hlt : g < w.heap.size := by
  rcases Nat.lt_or_ge g w.heap.size with h | h
  · exact h
  · rw [Array.getElem?_eq_none h] at hh; cases hh
 rw [heap_grow_old _ _ (by simpa [putRow, mapBlock, Go.Sort.ahead] using hlt)]; simp [putRow, mapBlock, Go.Sort.ahead, Array.getElem?_modify, hh, onCells]
theorem sort_other (w : World) (g n : Nat) (F : Array Value) (os : Array Obj) (i : Nat) (hi : i < w.heap.size) (hne : i ≠ g) :
 (grow (putRow id (Go.Sort.ahead w n) g 0 F) os).heap[i]? = w.heap[i]? := by
 rw [heap_grow_old _ _ (by simpa [putRow, mapBlock, Go.Sort.ahead] using hi)]; simp [putRow, mapBlock, Go.Sort.ahead, Array.getElem?_modify, Ne.symm hne]
set_option maxHeartbeats 1000000 in
theorem api_Pair_42.calls (P0_ : Nat → Prop) (u9000_ : Value) (l0 : List S42) (r : List S42) (w0 w : World) (hB : Below w0.heap.size w0 w) (ho0 : Kd.R k42 42 w w0.heap.size P0_ u9000_ l0) (h : api_Pair_42.f l0 = some r) :
 Calls Tryd.prog 42 #[u9000_, .func (.func 43) #[] #[]] w fun e w' => e = .returned (.tuple #[]) ∧ Kd.R k42 42 w' w0.heap.size (fun k_ => (P0_ k_ ∨ w.heap.size ≤ k_)) u9000_ r ∧ Below w0.heap.size w0 w' ∧ Kept w w' (fun k_ => P0_ k_) := by
 unfold api_Pair_42.f at h; split at h
 case isFalse => exact absurd h (by simp)
 case isTrue hlen =>
 obtain rfl := Option.some.inj h; clear h; rw [isP_eq]; by_cases hl : l0 = []
 · subst hl; obtain ⟨A, c, rfl⟩ := Kd.R_slice ho0; have hn := AnyF.slices_SortFunc_none (P := Tryd.prog) (ρ := Tryd.sortP_ren) { Tryd.sortP with } A c (.func (.func 43) #[] #[]) w; refine (show Calls Tryd.prog 42 #[.slice A 0 c, .func (.func 43) #[] #[]] w _ from hn).mono ?_; rintro e w' ⟨rfl, rfl⟩; exact ⟨rfl, by rw [List.mergeSort_nil]; exact Kd.R_mono ho0 (fun k hk => .inl hk), hB, Kept.refl _ _⟩
 · have hp : 0 < l0.length := List.length_pos_iff.2 hl; obtain ⟨hok, inner, hown, hreps⟩ := ho0; obtain ⟨hil, hcase⟩ := hown; rcases hcase with ⟨rfl, h0⟩ | ⟨g, cap, cur, rfl, hg, hh, hn, hcap, hsz, htake⟩
   · omega
   · have hPg : P0_ g := hok g (by simp [Value.ownBlock])
     have hlt : g < w.heap.size := by
      rcases Nat.lt_or_ge g w.heap.size with h | h
      · exact h
      · rw [Array.getElem?_eq_none h] at hh; cases hh
     have hsz2 : cur.size = cap * 2 := hsz; have hF : (flatK encP 2 l0.toArray).size = l0.length * 2 := by simp
     have hH : HoldsK encP 2 w g 0 l0.toArray := by
      intro j hj; rw [hF] at hj; refine ⟨?_, blk_frozen hh _⟩; rw [Nat.zero_add]; refine (blk_cell hh j).trans ?_; have a := flat_cells hreps j hj; rw [← htake, List.getElem?_take, if_pos (by exact hj)] at a; simpa using a
     have eg : ∀ args w, (callFunc 43 args).run Tryd.prog w = .ok (.enter 43 args) w := enters_of Tryd.func43 (by kernel_rfl) rfl; have hcon := AnyQ.slices_SortFunc_total Tryd.sortP 2 Tryd.isAgg42 Tryd.sizeOf42 encP (fun _ => rfl) (fun x v hv => by simp [encP] at hv; rcases hv with rfl | rfl <;> rfl) cmpP swoP 43 #[] g 0 cap l0.toArray w eg (cmpLaysP g 0 _ w) hH hlt (by simp; omega) totP; rw [leP_eq] at hcon; have hcon2 : Calls Tryd.prog 42 #[.slice (some ⟨g, 0, none⟩) l0.length cap, .func (.func 43) #[] #[]] w fun e w' => e = .returned (.tuple #[]) ∧ ∃ n os, w' = sortWorldK encP 2 w g 0 n (l0.mergeSort leP).toArray os := hcon
     refine hcon2.mono ?_; rintro e w' ⟨rfl, n, os, rfl⟩; have hl2 : (l0.mergeSort leP).length = l0.length := List.length_mergeSort _; have hF2 : (flatK encP 2 (l0.mergeSort leP).toArray).size = l0.length * 2 := by simp
     unfold sortWorldK putRowK; have hnew := sort_heap w g n (flatK encP 2 (l0.mergeSort leP).toArray) os cur 42 hh; have hoth := sort_other w g n (flatK encP 2 (l0.mergeSort leP).toArray) os; have hszW : w.heap.size ≤ (grow (putRow id (Go.Sort.ahead w n) g 0 (flatK encP 2 (l0.mergeSort leP).toArray)) os).heap.size := by simp [grow, putRow, mapBlock, Go.Sort.ahead]
     have hos : (grow (putRow id (Go.Sort.ahead w n) g 0 (flatK encP 2 (l0.mergeSort leP).toArray)) os).os = w.os := rfl; have htp : (grow (putRow id (Go.Sort.ahead w n) g 0 (flatK encP 2 (l0.mergeSort leP).toArray)) os).tape = w.tape := rfl; have hou : (grow (putRow id (Go.Sort.ahead w n) g 0 (flatK encP 2 (l0.mergeSort leP).toArray)) os).output = w.output := rfl; generalize hWW : grow (putRow id (Go.Sort.ahead w n) g 0 (flatK encP 2 (l0.mergeSort leP).toArray)) os = W at *; have hput : ∀ k, k < l0.length * 2 → (putCells id 0 (flatK encP 2 (l0.mergeSort leP).toArray) cur)[k]? = some (flatK encP 2 (l0.mergeSort leP).toArray)[k]! := fun k hk => put_get _ _ k (by omega) (by omega)
     have hpsz : (putCells id 0 (flatK encP 2 (l0.mergeSort leP).toArray) cur).size = cap * 2 := by simp [putCells, hsz2]
     have hpl : (putCells id 0 (flatK encP 2 (l0.mergeSort leP).toArray) cur).toList.length = cap * 2 := by simpa using hpsz
     refine ⟨rfl, ⟨fun k hk => .inl (hok k hk), (putCells id 0 (flatK encP 2 (l0.mergeSort leP).toArray) cur).toList.take (l0.length * 2), ?_, ?_⟩, ?_, ?_⟩
     · rw [hl2]; exact ⟨by show _ = l0.length * 2; rw [List.length_take, hpl]; exact Nat.min_eq_left (by omega), .inr ⟨g, cap, _, rfl, hg, hnew, hn, hcap, hpsz, rfl⟩⟩
     · refine ⟨by rw [hl2]; show _ = l0.length * 2; rw [List.length_take, hpl]; exact Nat.min_eq_left (by omega), fun j p hj => ?_⟩; have hjl : j < l0.length := by rw [← hl2]; exact (List.getElem?_eq_some_iff.1 hj).1
       have fg := flat_get _ j p hj
       have e : (((putCells id 0 (flatK encP 2 (l0.mergeSort leP).toArray) cur).toList.take (l0.length * 2)).drop (j * 2)).take 2 = [.int .i64 p.f0, .int .i64 p.f1] := by
        apply List.ext_getElem?; intro i; rw [List.getElem?_take]; by_cases hi : i < 2
        · rw [if_pos hi, List.getElem?_drop, List.getElem?_take, if_pos (by omega), Array.getElem?_toList, hput _ (by omega)]; match i, hi with
          | 0, _ => rw [Nat.add_zero, fg.1]; rfl
          | 1, _ => rw [fg.2]; rfl
        · rw [if_neg hi]; rw [List.getElem?_eq_none (by simp; omega)]
       rw [show k42.sz = 2 from rfl, e]; exact k42_mkM _ _ _ p
     · refine ⟨hos.trans hB.os, htp.trans hB.tape, hou.trans hB.output, Nat.le_trans hB.size hszW, fun k hk => ?_⟩; exact (hoth k (Nat.lt_of_lt_of_le hk hB.size) (by omega)).trans (hB.block k hk)
     · exact ⟨hszW, fun i hi hn' => hoth i hi (fun e => hn' (e ▸ hPg))⟩
end sorting
end Go.Proofs.YtjmdlmogdbhdhaaDoor.P
namespace Go.Proofs.YtjmdlmogdbhdhaaDoor.P
open Go.RowKit Go.Proofs.YtjmdlmogdbhdhaaDoorW.PrintWords Go.Proofs.YtjmdlmogdbhdhaaDoorW.PrintLast Go.Proofs.YtjmdlmogdbhdhaaDoorW.PrintMore
attribute [local go_sem] max2_int min2_int max_two min_two max_three min_three max_four min_four
set_option linter.unusedVariables false
set_option linter.unusedSimpArgs false
open Go.ChangeMaps (setBlock)
def mKey (p : S42) : Value := .agg #[.int .i64 p.f0, .int .i64 p.f1]
def mEsL : List (S42 × Bool) → Nat → List MapEntry
 | [], _ => []
 | (p, v) :: r, i => { key := mKey p, val := .bool v, born := i } :: mEsL r (i + 1)
def MapIs (W : World) (b : Nat) (m : List (S42 × Bool)) : Prop := W.heap[b]? = some (.map (mEsL m 0).toArray m.length)
def eqS (x y : S42) : Bool := x.f0 == y.f0 && x.f1 == y.f1
def mput : List (S42 × Bool) → S42 → Bool → List (S42 × Bool)
 | [], x, v => [(x, v)]
 | (y, u) :: r, x, v => if eqS x y = true then (x, v) :: r else (y, u) :: mput r x v
def mget : List (S42 × Bool) → S42 → Bool
 | [], _ => false
 | (y, u) :: r, x => if eqS x y = true then u else mget r x
def mfind : List (S42 × Bool) → S42 → Nat → Option (Nat × Value)
 | [], _, _ => none
 | (y, u) :: r, x, i => if eqS x y = true then some (i, .bool u) else mfind r x (i + 1)
theorem mCheck (e : Bool) (x : S42) (w : World) : (Instr.checkKey e 10000 42 (mKey x)).run Tryd.prog w = .ok () w := by kernel_rfl
theorem mEqual (x y : S42) (w : World) : (Op.equal 42 (mKey x) (mKey y)).run Tryd.prog w = .ok (eqS x y) w := eqA42 9998 w x.f0 y.f0 x.f1 y.f1
theorem mAsk (x : S42) (w : World) : ∀ (m : List (S42 × Bool)) (i j : Nat), (Instr.findAsking 42 (mKey x) (mEsL m i) j).run Tryd.prog w = .ok (mfind m x j) w
 | [], i, j => rfl
 | (y, u) :: r, i, j => by
  simp only [mEsL, Instr.findAsking, Sem.run_bind, mEqual, Result.andThen, mfind]
  by_cases h : eqS x y = true
  · simp only [h, if_true]; rfl
  · simp only [Bool.not_eq_true] at h
    simp only [h, if_false, Bool.false_eq_true]
    exact mAsk x w r (i + 1) (j + 1)
theorem mNow (x : S42) (w : World) (m : List (S42 × Bool)) : (Instr.findKey 42 (mKey x) (mEsL m 0)).run Tryd.prog w = .ok (mfind m x 0) w := by
 have hu := run_underlying Tryd.underlying42 w; simp only [Instr.findKey, Sem.run_bind, hu, Result.andThen]; cases m with
 | nil => rfl
 | cons p r =>
  obtain ⟨y, u⟩ := p; have e : ∀ fs, Instr.findNow (.struct fs) (mKey x) (mEsL ((y, u) :: r) 0) 0 = none := fun fs => rfl
  rw [e]; exact mAsk x w ((y, u) :: r) 0 0
theorem mfind_get (x : S42) : ∀ (m : List (S42 × Bool)) (i : Nat), (mfind m x i = none → mget m x = false) ∧ (∀ j v, mfind m x i = some (j, v) → v = .bool (mget m x))
 | [], i => ⟨fun _ => rfl, fun j v h => by cases h⟩
 | (y, u) :: r, i => by
  unfold mfind mget
  by_cases h : eqS x y = true
  · rw [if_pos h, if_pos h]
    exact ⟨fun h2 => (by cases h2), fun j v h2 => (by cases h2; rfl)⟩
  · rw [if_neg h, if_neg h]
    exact mfind_get x r (i + 1)
theorem mEsL_len : ∀ (m : List (S42 × Bool)) (i : Nat), (mEsL m i).length = m.length
 | [], _ => rfl
 | _ :: r, i => by simp [mEsL, mEsL_len r (i + 1)]
theorem run_getMap {w : World} {b : Nat} {es : Array MapEntry} {c : Nat} (h : w.heap[b]? = some (.map es c)) : (getObj b).run Tryd.prog w = .ok (.map es c) w := by
 simp [getObj, Sem.run, h]
theorem lookup_run {W : World} {b : Nat} {m : List (S42 × Bool)} (h : MapIs W b m) (x : S42) :
 (Instr.lookup 71 (.map (some b)) (mKey x) false).run Tryd.prog W = .ok (.bool (mget m x)) W := by
 have hu := run_underlying Tryd.underlying71 W; simp only [Instr.lookup, Sem.run_bind, hu, Result.andThen, run_getMap h, Sem.run_pure, mCheck, mNow]; have hg := mfind_get x m 0; cases hf : mfind m x 0 with
 | none =>
  have hz : (zeroValue 4).run Tryd.prog W = .ok (.bool false) W := by kernel_rfl
  simp only [hz, Sem.run_bind, Result.andThen, Sem.run_pure, hg.1 hf]; rfl
 | some q =>
  obtain ⟨j, v⟩ := q; rw [hg.2 j v hf]; rfl
theorem mfind_put (x : S42) (v : Bool) : ∀ (m : List (S42 × Bool)) (i : Nat), (mfind m x i = none → mput m x v = m ++ [(x, v)]) ∧ (∀ j u, mfind m x i = some (j, u) → i ≤ j ∧ j - i < m.length ∧ mput m x v = m.set (j - i) (x, v) ∧ ∃ y, m[j - i]? = some y ∧ eqS x y.1 = true)
 | [], i => ⟨fun _ => rfl, fun j u h => by cases h⟩
 | (y, u) :: r, i => by
  unfold mfind mput
  by_cases h : eqS x y = true
  · rw [if_pos h, if_pos h]
    refine ⟨fun h2 => (by cases h2), fun j v h2 => ?_⟩
    simp only [Option.some.injEq, Prod.mk.injEq] at h2
    obtain ⟨rfl, rfl⟩ := h2
    exact ⟨Nat.le_refl _, by simp, by simp, (y, u), by simp, h⟩
  · rw [if_neg h, if_neg h]
    obtain ⟨h1, h2⟩ := mfind_put x v r (i + 1)
    refine ⟨fun h3 => by rw [h1 h3]; rfl, fun j u2 h3 => ?_⟩
    obtain ⟨a, b, c, z, d, e⟩ := h2 j u2 h3
    have e1 : j - i = (j - (i + 1)) + 1 := by omega
    refine ⟨by omega, by simp; omega, by rw [c, e1]; rfl, z, by rw [e1]; exact d, e⟩
theorem mEsL_snoc (x : S42) (v : Bool) : ∀ (m : List (S42 × Bool)) (i : Nat), mEsL (m ++ [(x, v)]) i = mEsL m i ++ [{ key := mKey x, val := .bool v, born := i + m.length }]
 | [], i => rfl
 | (y, u) :: r, i => by
  simp only [List.cons_append, mEsL, mEsL_snoc x v r (i + 1), List.length_cons]
  rw [show i + 1 + r.length = i + (r.length + 1) by omega]
theorem mEsL_get : ∀ (m : List (S42 × Bool)) (i j : Nat), (mEsL m i)[j]? = (m[j]?).map fun p => { key := mKey p.1, val := .bool p.2, born := i + j }
 | [], i, j => by simp [mEsL]
 | (y, u) :: r, i, 0 => by simp [mEsL]
 | (y, u) :: r, i, j + 1 => by
  simp only [mEsL, List.getElem?_cons_succ, mEsL_get r (i + 1) j]
  cases r[j]? <;> simp; omega
theorem eqS_iff (x y : S42) : eqS x y = true ↔ x = y := by
 cases x; cases y; simp [eqS]
theorem mSame (x : S42) : Instr.sameBits 10000 (mKey x) (mKey x) = true := by
 show (2 == 2 && _) = true; simp [Instr.sameBits]
theorem stays_run (x : S42) (w : World) : (Instr.keyThatStays (mKey x) (mKey x)).run Tryd.prog w = .ok (mKey x) w := by
 simp only [Instr.keyThatStays, mSame, if_true]; rfl
theorem run_setMap {w : World} {b : Nat} {es : Array MapEntry} {c : Nat} (h : w.heap[b]? = some (.map es c)) (o' : Obj) : (setObj b o').run Tryd.prog w = .ok () (setBlock w b o') := by
 simp [setObj, Sem.run, h, setBlock]
theorem update_run {W : World} {b : Nat} {m : List (S42 × Bool)} (h : MapIs W b m) (x : S42) (v : Bool) :
 (Instr.mapUpdate 71 (.map (some b)) (mKey x) (.bool v)).run Tryd.prog W = .ok () (setBlock W b (.map (mEsL (mput m x v) 0).toArray (mput m x v).length)) := by
 have hu := run_underlying Tryd.underlying71 W; simp only [Instr.mapUpdate, Sem.run_bind, hu, Result.andThen, run_getMap h, mCheck, mNow]; have hg := mfind_put x v m 0; cases hf : mfind m x 0 with
 | none =>
  simp only [run_setMap h]; rw [hg.1 hf, mEsL_snoc]; simp
 | some q =>
  obtain ⟨j, u⟩ := q; obtain ⟨-, hj, hp, y, hy, he⟩ := hg.2 j u hf; rw [Nat.sub_zero] at hj hp hy; have hxy : x = y.1 := (eqS_iff _ _).1 he
  have hk : ((((mEsL m 0).toArray[j]?).map (·.key)).getD (mKey x)) = mKey x := by
   simp only [List.getElem?_toArray, mEsL_get, hy, Option.map_some, Option.getD_some, hxy]
  have e2 : (mput m x v).length = m.length := by rw [hp]; simp
  have e1 : (mEsL m 0).toArray.modify j (fun e => { e with key := mKey x, val := .bool v }) = (mEsL (mput m x v) 0).toArray := by
   rw [hp]; apply Array.ext_getElem?; intro i; rw [Array.getElem?_modify, List.getElem?_toArray, List.getElem?_toArray, mEsL_get, mEsL_get, List.getElem?_set]; by_cases hi : j = i
   · subst hi; simp [hj, hy]
   · simp [hi]
  simp only [hk, Sem.run_bind, stays_run, Result.andThen]; rw [e1, e2]; exact run_setMap h _
theorem MapIs.put {W : World} {b : Nat} {m : List (S42 × Bool)} (h : MapIs W b m) (m' : List (S42 × Bool)) : MapIs (setBlock W b (.map (mEsL m' 0).toArray m'.length)) b m' := by
 have hlt : b < W.heap.size := by
  rcases Nat.lt_or_ge b W.heap.size with h2 | h2
  · exact h2
  · unfold MapIs at h; rw [Array.getElem?_eq_none h2] at h; cases h
 unfold MapIs setBlock; simp [hlt]
def mE (q : (S42 × Bool) × Nat) : MapEntry := { key := mKey q.1.1, val := .bool q.1.2, born := q.2 }
def leftQ (m : List (S42 × Bool)) (seen : Array Nat) : List ((S42 × Bool) × Nat) := m.zipIdx.filter fun q => !seen.contains q.2
theorem mEsL_zip : ∀ (m : List (S42 × Bool)) (i : Nat), mEsL m i = (m.zipIdx i).map mE
 | [], i => rfl
 | (y, u) :: r, i => by
  simp only [mEsL, List.zipIdx_cons, List.map_cons, mEsL_zip r (i + 1)]
  rfl
theorem zip_nodup (m : List (S42 × Bool)) : (m.zipIdx.map (·.2)).Nodup := by
 rw [show m.zipIdx.map (·.2) = List.range' 0 m.length from List.zipIdx_map_snd _ _]; exact List.nodup_range'
theorem born_nodup (m : List (S42 × Bool)) : ((mEsL m 0).map (·.born)).Nodup := by
 rw [mEsL_zip, List.map_map]; exact zip_nodup m
theorem left_list (m : List (S42 × Bool)) (seen : Array Nat) : (leftOf (mEsL m 0).toArray seen).toList = (leftQ m seen).map mE := by
 unfold leftOf leftQ; rw [mEsL_zip, List.filter_toArray, List.filter_map]; rfl
theorem zip_lt (m : List (S42 × Bool)) (q : (S42 × Bool) × Nat) (h : q ∈ m.zipIdx) : q.2 < m.length := by
 have := List.mem_zipIdx h; omega
section
variable {ops : Array Oper} {rest : List Oper} {o : Oper} {a : Act} {Q : Exit → Act → World → Prop}
theorem next_law {W : World} {bi bm : Nat} {m : List (S42 × Bool)} {seen : Array Nat} (hg : o.guard = none) (it : Operand) (hop : o.op = Op.next it false)
 (hit : a.eval it = .pointer (some ⟨bi, 0, none⟩)) (hr : W.heap[bi]? = some (.mapIter (some bm) m.length seen m.length)) (hb : MapIs W bm m)
 (hDone : leftQ m seen = [] → wpList Tryd.prog ops Q rest (a.put o.dst (.tuple #[.bool false])) W)
 (hMore : ∀ q, q ∈ leftQ m seen → ∀ w1, (w1 = W ∨ w1 = W.drew) → wpList Tryd.prog ops Q rest (a.put o.dst (.tuple #[.bool true, .agg #[.int .i64 q.1.1.f0, .int .i64 q.1.1.f1], .bool q.1.2])) (setBlock w1 bi (.mapIter (some bm) m.length (seen.push q.2) m.length))) :
 wpList Tryd.prog ops Q (o :: rest) a W := by
 refine wpList_plain hg fun K' hK' => ?_
 unfold Oper.wp
 have hold : ∀ x ∈ (mEsL m 0).toArray.toList, x.born < m.length := by
  intro x hx; rw [List.toList_toArray, mEsL_zip] at hx; obtain ⟨q, hq, rfl⟩ := List.mem_map.1 hx; exact zip_lt m q hq
 rcases run_next_at (P := Tryd.prog) W o.type bi bm m.length m.length seen (mEsL m 0).toArray m.length hr hb hold (Nat.le_refl _) with ⟨h0, hrun⟩ | ⟨e, he, w1, hw, hrun⟩
 · have hl : leftQ m seen = [] := by
    have h2 := left_list m seen; rw [Array.eq_empty_of_size_eq_zero h0] at h2; exact List.map_eq_nil_iff.1 h2.symm
   simp [execOp, hop, hit, hrun, Result.andThen]; exact hK' _ _ (hDone hl)
 · rw [left_list] at he; obtain ⟨q, hq, rfl⟩ := List.mem_map.1 he; have h3 := hMore q hq w1 hw; simp only [mE] at hrun; simp [execOp, hop, hit, hrun, Result.andThen]; exact hK' _ _ h3
end
theorem entry_run {W : World} {bi bm : Nat} {m : List (S42 × Bool)} {seen : Array Nat} {q : (S42 × Bool) × Nat} (hr : W.heap[bi]? = some (.mapIter (some bm) m.length (seen.push q.2) m.length)) (hb : MapIs W bm m) (hq : q ∈ m.zipIdx) :
 (Instr.entry (.pointer (some ⟨bi, 0, none⟩))).run Tryd.prog W = .ok (.tuple #[mKey q.1.1, .bool q.1.2]) W := by
 have h := run_entry_at (P := Tryd.prog) W bi bm m.length seen (mEsL m 0).toArray m.length (mE q) hr hb (by rw [List.toList_toArray, mEsL_zip]; exact List.mem_map.2 ⟨q, hq, rfl⟩) (by rw [List.toList_toArray]; exact born_nodup m); exact h
theorem range_run {W : World} {b : Nat} {m : List (S42 × Bool)} (h : MapIs W b m) :
 (Instr.range 71 (.map (some b))).run Tryd.prog W = .ok (.pointer (some ⟨W.heap.size, 0, none⟩)) (W.alloc (.mapIter (some b) m.length #[] m.length)) := by
 have hu := run_underlying Tryd.underlying71 W; simp only [Instr.range, Sem.run_bind, hu, Result.andThen, run_getMap h, Sem.run_pure]; rfl
theorem filter_strike {α : Type} (f : α → Nat) (q : α) : ∀ (L : List α), (L.map f).Nodup → q ∈ L → L.Perm (q :: L.filter fun x => !(f x == f q))
 | [], _, h => by cases h
 | x :: r, hn, h => by
  simp only [List.map_cons, List.nodup_cons, List.mem_map, not_exists, not_and] at hn
  by_cases hx : f x = f q
  · have hxq : x = q := by
     rcases List.mem_cons.1 h with e | e
     · exact e.symm
     · exact absurd hx.symm (hn.1 q e)
    subst hxq
    have e : (x :: r).filter (fun y => !(f y == f x)) = r := by
     rw [List.filter_cons_of_neg (by simp)]; exact List.filter_eq_self.2 fun y hy => by have := hn.1 y hy; simpa using this
    rw [e]
  · have hq : q ∈ r := by
     rcases List.mem_cons.1 h with e | e
     · exact absurd (by rw [e]) hx
     · exact e
    have ih := filter_strike f q r hn.2 hq; rw [List.filter_cons_of_pos (by simpa using hx)]; exact (List.Perm.cons x ih).trans (List.Perm.swap q x _)
theorem left_push (m : List (S42 × Bool)) (seen : Array Nat) (q : (S42 × Bool) × Nat) (hq : q ∈ leftQ m seen) : (leftQ m seen).Perm (q :: leftQ m (seen.push q.2)) := by
 have hn : ((leftQ m seen).map (·.2)).Nodup := (zip_nodup m).sublist (List.Sublist.map _ List.filter_sublist); have h := filter_strike (·.2) q (leftQ m seen) hn hq
 have e : (leftQ m seen).filter (fun x => !(x.2 == q.2)) = leftQ m (seen.push q.2) := by
  unfold leftQ; rw [List.filter_filter]; congr 1; funext x; by_cases hx : x.2 = q.2 <;> simp [hx, Bool.and_comm]
 rw [e] at h; exact h
theorem left_mem {m : List (S42 × Bool)} {seen : Array Nat} {q : (S42 × Bool) × Nat} (hq : q ∈ leftQ m seen) : q ∈ m.zipIdx := (List.mem_filter.1 hq).1
theorem left_start (m : List (S42 × Bool)) : leftQ m #[] = m.zipIdx := by
 unfold leftQ; exact List.filter_eq_self.2 fun q _ => by simp
open Go.ChangeMaps (setBlock)
def tog1 (l : List S42) : List (S42 × Bool) := l.foldl (fun m p => mput m p true) []
def rangeBad (N : Int) (p : S42) : Bool := decide (p.f0 < 0) || decide (p.f0 ≥ N) || decide (p.f1 < 0) || decide (p.f1 ≥ N)
def tog3 : List S42 → List (S42 × Bool) → List (S42 × Bool) → Option (List (S42 × Bool))
 | [], _, there => some there
 | p :: r, seen, there => if mget seen p = true then none else tog3 r (mput seen p true) (mput there p (!mget there p))
def togOut (m : List (S42 × Bool)) : List S42 := (m.filter (·.2)).map (·.1)
def togEnd (N : Int) : Option (List (S42 × Bool)) → Int × List S42 × Int
 | none => (0, [], 5)
 | some m => (N, isP (togOut m), 0)
def enforce_Toggle.f (k : Nat) (a0_0 : Int) (l0_1 : List S42) (l1 : List S42) : Option (Int × List S42 × Int) :=
 (graph_Validate.f k a0_0 l0_1).bind fun t => if t = 0 then (if l0_1.length + l1.length < 1000000 then (if l1.any (rangeBad a0_0) = true then some (0, [], 1) else some (togEnd a0_0 (tog3 l1 [] (tog1 l0_1)))) else none) else some (0, [], t)
structure TW (w W : World) (gb gr : Nat) (X Y : Obj) : Prop where
 hb : Below w.heap.size w W
 bg : W.heap[gb]? = some X
 br : W.heap[gr]? = some Y
theorem lt_of_blk {W : World} {g : Nat} {o : Obj} (h : W.heap[g]? = some o) : g < W.heap.size := by
 rcases Nat.lt_or_ge g W.heap.size with h2 | h2
 · exact h2
 · rw [Array.getElem?_eq_none h2] at h; cases h
theorem TW.step {w W W' : World} {gb gr : Nat} {X Y : Obj} (h : TW w W gb gr X Y) (hb : Below W.heap.size W W') : TW w W' gb gr X Y :=
 ⟨below_step h.hb hb, (hb.block _ (lt_of_blk h.bg)).trans h.bg, (hb.block _ (lt_of_blk h.br)).trans h.br⟩
theorem TW.alloc {w W : World} {gb gr : Nat} {X Y : Obj} (h : TW w W gb gr X Y) (o : Obj) : TW w (W.alloc o) gb gr X Y := h.step (below_alloc (Below.refl _ _) o)
theorem TW.drewN {w W : World} {gb gr : Nat} {X Y : Obj} (h : TW w W gb gr X Y) (n : Nat) : TW w (W.drewN n) gb gr X Y := ⟨⟨h.hb.os, h.hb.tape, h.hb.output, h.hb.size, h.hb.block⟩, h.bg, h.br⟩
theorem TW.drew {w W : World} {gb gr : Nat} {X Y : Obj} (h : TW w W gb gr X Y) : TW w W.drew gb gr X Y := h.drewN 1
theorem setBlock_at (W : World) (b i : Nat) (o : Obj) : (setBlock W b o).heap[i]? = if b = i then (if b < W.heap.size then some o else none) else W.heap[i]? := by
 unfold setBlock; simp only [Array.set!_eq_setIfInBounds, Array.getElem?_setIfInBounds]
theorem setBlock_below {w W : World} {b : Nat} (o : Obj) (hb : Below w.heap.size w W) (hB : w.heap.size ≤ b) : Below w.heap.size w (setBlock W b o) :=
 ⟨hb.os, hb.tape, hb.output, by simpa [setBlock] using hb.size, fun i hi => by rw [setBlock_at, if_neg (by omega)]; exact hb.block i hi⟩
theorem TW.mset {w W : World} {gb gr b : Nat} {X Y : Obj} (h : TW w W gb gr X Y) (o : Obj) (hB : w.heap.size ≤ b) (h1 : b ≠ gb) (h2 : b ≠ gr) : TW w (setBlock W b o) gb gr X Y :=
 ⟨setBlock_below o h.hb hB, by rw [setBlock_at, if_neg h1]; exact h.bg, by rw [setBlock_at, if_neg h2]; exact h.br⟩
theorem MapIs.step {W W' : World} {b : Nat} {m : List (S42 × Bool)} (h : MapIs W b m) (hb : Below W.heap.size W W') : MapIs W' b m := (hb.block _ (lt_of_blk h)).trans h
theorem MapIs.alloc {W : World} {b : Nat} {m : List (S42 × Bool)} (h : MapIs W b m) (o : Obj) : MapIs (W.alloc o) b m := h.step (below_alloc (Below.refl _ _) o)
theorem MapIs.other {W : World} {b b' : Nat} {m : List (S42 × Bool)} (h : MapIs W b m) (o : Obj) (hn : b' ≠ b) : MapIs (setBlock W b' o) b m := by
 unfold MapIs; rw [setBlock_at, if_neg hn]; exact h
theorem rd_take (l : List S42) (i : Nat) (hi : i < l.length) : l.take (i + 1) = l.take i ++ [rd_T42 l (i : Int)] := by
 rw [List.take_succ_eq_append_getElem hi]; simp [rd_T42, hi]
theorem tog1_snoc (l : List S42) (i : Nat) (hi : i < l.length) : mput (tog1 (l.take i)) (rd_T42 l (i : Int)) true = tog1 (l.take (i + 1)) := by
 unfold tog1; rw [rd_take l i hi, List.foldl_append]; rfl
theorem tog_end {w W : World} {gb gr : Nat} {X : Obj} (h : TW w W gb gr X (.cells #[.int .i64 0, .slice none 0 0] 24 (0, 0))) (hr : w.heap.size ≤ gr) :
 ((W.setCell ⟨gr, 0, none⟩ (.int .i64 0)).setCell ⟨gr, 1, none⟩ (.slice none 0 0)).heap[gr]? = some (.cells #[.int .i64 0, .slice none 0 0] 24 (0, 0)) ∧ Below w.heap.size w ((W.setCell ⟨gr, 0, none⟩ (.int .i64 0)).setCell ⟨gr, 1, none⟩ (.slice none 0 0)) :=
 ⟨blk_put (blk_put h.br 0 (.int .i64 0) rfl) 1 (.slice none 0 0) rfl, below_set (below_set h.hb hr) hr⟩
theorem rd_drop (l : List S42) (i : Nat) (hi : i < l.length) : l.drop i = rd_T42 l (i : Int) :: l.drop (i + 1) := by
 rw [List.drop_eq_getElem_cons hi]; simp [rd_T42, hi]
theorem mput_len : ∀ (m : List (S42 × Bool)) (x : S42) (v : Bool), (mput m x v).length ≤ m.length + 1
 | [], _, _ => by simp [mput]
 | (y, u) :: r, x, v => by
  unfold mput
  split
  · simp
  · have := mput_len r x v
    simp; omega
theorem tog1_len (l : List S42) : (tog1 l).length ≤ l.length := by
 have h : ∀ (l : List S42) (m : List (S42 × Bool)), (l.foldl (fun m p => mput m p true) m).length ≤ m.length + l.length := by
  intro l; induction l with
  | nil => intro m; simp
  | cons p r ih =>
   intro m; have := ih (mput m p true); have := mput_len m p true; simp; omega
 simpa [tog1] using h l []
theorem tog3_len : ∀ (l : List S42) (seen there t : List (S42 × Bool)), tog3 l seen there = some t → t.length ≤ there.length + l.length
 | [], seen, there, t, h => by
  obtain rfl : there = t := by simpa [tog3] using h
  simp
 | p :: r, seen, there, t, h => by
  unfold tog3 at h
  split at h
  · cases h
  · have h1 := tog3_len r _ _ t h
    have h2 := mput_len there p (!mget there p)
    simp; omega
theorem own_no_map {W : World} {base b : Nat} {ok : Nat → Prop} {v : Value} {xs : List S42} {es : Array MapEntry} {c : Nat} (h : Kd.R k42 42 W base ok v xs) (hb : W.heap[b]? = some (.map es c)) : some b ≠ v.ownBlock := by
 intro e; obtain ⟨cells, hc⟩ := Kd.R_typed h b e.symm; rw [hc] at hb; cases hb
theorem own_no_iter {W : World} {base b : Nat} {ok : Nat → Prop} {v : Value} {xs : List S42} {mm : Option Nat} {s c : Nat} {sn : Array Nat} (h : Kd.R k42 42 W base ok v xs) (hb : W.heap[b]? = some (.mapIter mm s sn c)) : some b ≠ v.ownBlock := by
 intro e; obtain ⟨cells, hc⟩ := Kd.R_typed h b e.symm; rw [hc] at hb; cases hb
theorem R_block {W : World} {base b : Nat} {ok : Nat → Prop} {v : Value} {xs : List S42} {o' : Obj} (h : Kd.R k42 42 W base ok v xs) (hb : ∀ k, ok k → k ≠ b) : Kd.R k42 42 (setBlock W b o') base ok v xs :=
 Kd.R_step h (fun k ho _ => by rw [setBlock_at, if_neg (Ne.symm (hb k ho))])
theorem R_not_iter {W : World} {base b : Nat} {ok : Nat → Prop} {v : Value} {xs : List S42} {mm : Option Nat} {s c : Nat} {sn : Array Nat} (h : Kd.R k42 42 W base ok v xs) (hb : W.heap[b]? = some (.mapIter mm s sn c)) : Kd.R k42 42 W base (fun k => ok k ∧ k ≠ b) v xs :=
 Kd.R_mono (Kd.R_bound h) (fun k hk => ⟨hk.1, by
  obtain ⟨_, _, _, q, hq, cells', hc⟩ := hk
  rintro rfl
  rw [hc] at hb
  cases hb⟩)
theorem zip_out (V : List ((S42 × Bool) × Nat)) (m : List (S42 × Bool)) (h : V.Perm m.zipIdx) : (togOut (V.map (·.1))).Perm (togOut m) := by
 have h2 : (V.map (·.1)).Perm m := by
  have h3 := h.map (·.1); rwa [show m.zipIdx.map (·.1) = m from List.zipIdx_map_fst _ _] at h3
 exact (h2.filter _).map _
theorem next_facts {w W w7 : World} {gb gr go bi bm : Nat} {X Y Z : Obj} {there : List (S42 × Bool)} {sA : Array Nat} {v : Value} {O : List S42}
 (T2 : Aside0 (TW w W gb gr X Y)) (M2 : Aside0 (MapIs W bm there)) (I2 : Aside0 (W.heap[bi]? = some (.mapIter (some bm) there.length sA there.length))) (O2 : Aside0 (W.heap[go]? = some Z)) (R2 : Aside0 (Kd.R k42 42 W w.heap.size (fun _ => True) v O))
 (hw : w7 = W ∨ w7 = W.drew) (qi : Nat) (IB : w.heap.size ≤ bi) (IR : bi ≠ gr) (IG : bi ≠ gb) (IO : bi ≠ go) (IM : bi ≠ bm) :
 Aside0 (TW w (setBlock w7 bi (.mapIter (some bm) there.length (sA.push qi) there.length)) gb gr X Y) ∧ Aside0 (MapIs (setBlock w7 bi (.mapIter (some bm) there.length (sA.push qi) there.length)) bm there) ∧ Aside0 ((setBlock w7 bi (.mapIter (some bm) there.length (sA.push qi) there.length)).heap[bi]? = some (.mapIter (some bm) there.length (sA.push qi) there.length)) ∧ Aside0 ((setBlock w7 bi (.mapIter (some bm) there.length (sA.push qi) there.length)).heap[go]? = some Z) ∧ Aside0 (Kd.R k42 42 (setBlock w7 bi (.mapIter (some bm) there.length (sA.push qi) there.length)) w.heap.size (fun _ => True) v O) := by
 have hh : w7.heap = W.heap := by rcases hw with rfl | rfl <;> rfl
 have T3 : TW w w7 gb gr X Y := by
  rcases hw with rfl | rfl
  · exact T2.out
  · exact T2.out.drew
 have R3 : Kd.R k42 42 w7 w.heap.size (fun _ => True) v O := by
  rcases hw with rfl | rfl
  · exact R2.out
  · exact Kd.R_drew R2.out
 have hlt := lt_of_blk I2.out; have I3 : w7.heap[bi]? = some (.mapIter (some bm) there.length sA there.length) := by rw [hh]; exact I2.out
 refine ⟨⟨T3.mset _ IB IG IR⟩, ⟨MapIs.other (by unfold MapIs; rw [hh]; exact M2.out) _ IM⟩, ⟨by rw [setBlock_at, if_pos rfl, hh, if_pos hlt]⟩, ⟨by rw [setBlock_at, if_neg IO, hh]; exact O2.out⟩, ⟨Kd.R_mono (R_block (R_not_iter R3 I3) (fun k hk => hk.2)) (fun _ hk => hk.1)⟩⟩
section
variable {ops : Array Oper} {rest : List Oper} {o : Oper} {a : Act} {Q : Exit → Act → World → Prop}
theorem next_law2 {w W : World} {gb gr go bi bm : Nat} {X Y Z : Obj} {there : List (S42 × Bool)} {sA : Array Nat} {v : Value} {O : List S42}
 (hg : o.guard = none) (it : Operand) (hop : o.op = Op.next it false) (hit : a.eval it = .pointer (some ⟨bi, 0, none⟩))
 (T2 : Aside0 (TW w W gb gr X Y)) (M2 : Aside0 (MapIs W bm there)) (I2 : Aside0 (W.heap[bi]? = some (.mapIter (some bm) there.length sA there.length))) (O2 : Aside0 (W.heap[go]? = some Z)) (R2 : Aside0 (Kd.R k42 42 W w.heap.size (fun _ => True) v O))
 (IB : Aside0 (w.heap.size ≤ bi)) (IR : Aside0 (bi ≠ gr)) (IG : Aside0 (bi ≠ gb)) (IO : Aside0 (bi ≠ go)) (IM : Aside0 (bi ≠ bm))
 (hDone : Aside0 (leftQ there sA = []) → wpList Tryd.prog ops Q rest (a.put o.dst (.tuple #[.bool false])) W)
 (hMore : ∀ (p : S42) (isq : Bool) (qi : Nat), Aside0 (((p, isq), qi) ∈ leftQ there sA) → ∀ W' : World, Aside0 (TW w W' gb gr X Y) → Aside0 (MapIs W' bm there) → Aside0 (W'.heap[bi]? = some (.mapIter (some bm) there.length (sA.push qi) there.length)) → Aside0 (W'.heap[go]? = some Z) → Aside0 (Kd.R k42 42 W' w.heap.size (fun _ => True) v O) →
  (Instr.entry (.pointer (some ⟨bi, 0, none⟩))).run Tryd.prog W' = .ok (.tuple #[.agg #[.int .i64 p.f0, .int .i64 p.f1], .bool isq]) W' → wpList Tryd.prog ops Q rest (a.put o.dst (.tuple #[.bool true, .agg #[.int .i64 p.f0, .int .i64 p.f1], .bool isq])) W') :
 wpList Tryd.prog ops Q (o :: rest) a W := by
 refine next_law (m := there) (seen := sA) (bi := bi) (bm := bm) hg it hop hit I2.out M2.out (fun hd => hDone ⟨hd⟩) ?_; rintro ⟨⟨p, isq⟩, qi⟩ hq w7 hw7; obtain ⟨T3, M3, I3, O3, R3⟩ := next_facts T2 M2 I2 O2 R2 hw7 qi IB.out IR.out IG.out IO.out IM.out; exact hMore p isq qi ⟨hq⟩ _ T3 M3 I3 O3 R3 (entry_run (q := ((p, isq), qi)) (seen := sA) I3.out M3.out (left_mem hq))
end
theorem togOut_len (V : List ((S42 × Bool) × Nat)) : (togOut (V.map (·.1))).length ≤ V.length := by
 unfold togOut; rw [List.length_map]; exact Nat.le_trans (List.length_filter_le _ _) (by simp)
theorem vis_len {V L : List ((S42 × Bool) × Nat)} {m : List (S42 × Bool)} (h : (V ++ L).Perm m.zipIdx) : V.length ≤ m.length := by
 have h2 := h.length_eq; simp at h2; omega
theorem togOut_snoc (V : List ((S42 × Bool) × Nat)) (p : S42) (q : Nat) : togOut ((V ++ [((p, true), q)]).map (·.1)) = togOut (V.map (·.1)) ++ [p] := by
 simp [togOut]
theorem togOut_skip (V : List ((S42 × Bool) × Nat)) (p : S42) (q : Nat) : togOut ((V ++ [((p, false), q)]).map (·.1)) = togOut (V.map (·.1)) := by
 simp [togOut]
theorem vis_step {V : List ((S42 × Bool) × Nat)} {m : List (S42 × Bool)} {sA : Array Nat} {x : (S42 × Bool) × Nat} (hx : x ∈ leftQ m sA) (h : (V ++ leftQ m sA).Perm m.zipIdx) : ((V ++ [x]) ++ leftQ m (sA.push x.2)).Perm m.zipIdx := by
 refine List.Perm.trans ?_ h; rw [List.append_assoc]; exact List.Perm.append_left V (left_push m sA x hx).symm
theorem left_len {m : List (S42 × Bool)} {sA : Array Nat} {x : (S42 × Bool) × Nat} (hx : x ∈ leftQ m sA) : (leftQ m sA).length = (leftQ m (sA.push x.2)).length + 1 := by
 have := (left_push m sA x hx).length_eq; simpa using this
theorem MapIs.far {W : World} {b : Nat} {m : List (S42 × Bool)} (h : MapIs W b m) {p : Addr} (hn : b ≠ p.block) (u : Value) : MapIs (W.setCell p u) b m := (Below.heap_setCell W p u b hn).trans h
theorem heap_far {W : World} {b : Nat} {o : Obj} (h : W.heap[b]? = some o) {p : Addr} (hn : b ≠ p.block) (u : Value) : (W.setCell p u).heap[b]? = some o := (Below.heap_setCell W p u b hn).trans h
theorem tog_store {w W : World} {gb gr go bi bm : Nat} {X Y : Obj} {there : List (S42 × Bool)} {sn : Array Nat} {n v v9 : Value} {O : List S42}
 (T5 : Aside0 (TW w W gb gr X Y)) (M5 : Aside0 (MapIs W bm there)) (I5 : Aside0 (W.heap[bi]? = some (.mapIter (some bm) there.length sn there.length))) (O5 : Aside0 (W.heap[go]? = some (.cells #[n, v] 24 (0, 0)))) (R5 : Aside0 (Kd.R k42 42 W w.heap.size (fun _ => True) v9 O))
 (OB : w.heap.size ≤ go) (OR : go ≠ gr) (OG : go ≠ gb) (OM : go ≠ bm) (IO : bi ≠ go) :
 Aside0 (TW w (W.setCell ⟨go, 1, none⟩ v9) gb gr X Y) ∧ Aside0 (MapIs (W.setCell ⟨go, 1, none⟩ v9) bm there) ∧ Aside0 ((W.setCell ⟨go, 1, none⟩ v9).heap[bi]? = some (.mapIter (some bm) there.length sn there.length)) ∧ Aside0 ((W.setCell ⟨go, 1, none⟩ v9).heap[go]? = some (.cells #[n, v9] 24 (0, 0))) ∧ Aside0 (Kd.R k42 42 (W.setCell ⟨go, 1, none⟩ v9) w.heap.size (fun _ => True) v9 O) :=
 ⟨⟨⟨below_set T5.out.hb OB, heap_far T5.out.bg (Ne.symm OG) _, heap_far T5.out.br (Ne.symm OR) _⟩⟩, ⟨MapIs.far M5.out (Ne.symm OM) _⟩, ⟨heap_far I5.out IO _⟩, ⟨blk_put O5.out 1 v9 rfl⟩, ⟨Kd.R_mono (Kd.R_far (Kd.R_types R5.out O5.out (by decide)) (fun k hk => hk.2) _) (fun _ hk => hk.1)⟩⟩
theorem tog_fin {w W : World} {gr : Nat} {P : Nat → Prop} {n v : Value} {O : List S42} (hb : Below w.heap.size w W) (br : W.heap[gr]? = some (.cells #[.int .i64 0, .slice none 0 0] 24 (0, 0))) (hr : w.heap.size ≤ gr) (R : Kd.R k42 42 W w.heap.size P v O) :
 ((W.setCell ⟨gr, 0, none⟩ n).setCell ⟨gr, 1, none⟩ v).heap[gr]? = some (.cells #[n, v] 24 (0, 0)) ∧ Below w.heap.size w ((W.setCell ⟨gr, 0, none⟩ n).setCell ⟨gr, 1, none⟩ v) ∧ Kd.R k42 42 ((W.setCell ⟨gr, 0, none⟩ n).setCell ⟨gr, 1, none⟩ v) w.heap.size (fun _ => True) v O :=
 ⟨blk_put (blk_put br 0 n rfl) 1 v rfl, below_set (below_set hb hr) hr, Kd.R_mono (Kd.R_far (Kd.R_far (Kd.R_types R br (by decide)) (fun k hk => hk.2) _) (fun k hk => hk.2) _) (fun _ _ => trivial)⟩
theorem tog_sort {V : List ((S42 × Bool) × Nat)} {there : List (S42 × Bool)} {sA : Array Nat} (HD : leftQ there sA = []) (HP : (V ++ leftQ there sA).Perm there.zipIdx) (hl : there.length < 1000000) : api_Pair_42.f (togOut (V.map (·.1))) = some (isP (togOut there)) := by
 rw [HD, List.append_nil] at HP; have h1 := togOut_len V; have h2 := HP.length_eq; simp at h2; unfold api_Pair_42.f; rw [if_pos (by omega), isP_eq, isP_eq, sort_perm (zip_out V there HP)]
set_option maxHeartbeats 8000000 in
set_option maxRecDepth 100000 in
theorem enforce_Toggle.calls (k : Nat) (a0_0 : Int) (A0_1 : Option Addr) (c0_1 : Nat) (l0_1 : List S42) (A1 : Option Addr) (c1 : Nat) (l1 : List S42) (r1 : Int) (r2 : List S42) (r3 : Int) (w : World) (hr0_1 : Kd.C k42 w A0_1 l0_1.length l0_1) (hc0_1 : l0_1.length ≤ c0_1) (hr1 : Kd.C k42 w A1 l1.length l1) (hc1 : l1.length ≤ c1) (h : enforce_Toggle.f k a0_0 l0_1 l1 = some (r1, r2, r3)) :
 Calls Tryd.prog 21 #[.agg #[.int .i64 a0_0, .slice A0_1 l0_1.length c0_1], .slice A1 l1.length c1] w fun e w' => ∃ v1_ : Value, e = .returned (.tuple #[.agg #[.int .i64 r1, v1_], .int .i64 r3]) ∧ Kd.R k42 42 w' w.heap.size (fun _ => True) v1_ r2 ∧ Below w.heap.size w w' := by
 have hu24 := Tryd.underlying24; have hu42 := Tryd.underlying42; have HR0 := Aside0.mk hr0_1; have HC0 := Aside0.mk hc0_1; have HR1 := Aside0.mk hr1; have HC1 := Aside0.mk hc1; clear hr0_1 hc0_1 hr1 hc1; have H := h; clear h; unfold enforce_Toggle.f at H; obtain ⟨t, hV, H⟩ := Option.bind_eq_some_iff.1 H; have HV := Aside0.mk hV; clear hV; by_cases ht : t = 0
 · subst ht; rw [if_pos rfl] at H; by_cases hlen : l0_1.length + l1.length < 1000000
   case neg => rw [if_neg hlen] at H; cases H
   rw [if_pos hlen] at H; have H' := Aside0.mk H; have HLEN := Aside0.mk hlen; clear H hlen; go_enter Tryd.func21, Tryd.ntmps21; go_wp2_with fail
   have T0 : TW w ((w.alloc (.cells #[.int .i64 a0_0, .slice A0_1 l0_1.length c0_1] 24)).alloc (.cells #[.int .i64 0, .slice none 0 0] 24)) w.heap.size (w.heap.size + 1) (.cells #[.int .i64 a0_0, .slice A0_1 l0_1.length c0_1] 24 (0, 0)) (.cells #[.int .i64 0, .slice none 0 0] 24 (0, 0)) :=
    ⟨below_alloc (below_alloc (Below.refl _ _) _) _, blk_alloc (blk_new w _) _, by have := blk_new (w.alloc (.cells #[.int .i64 a0_0, .slice A0_1 l0_1.length c0_1] 24)) (.cells #[.int .i64 0, .slice none 0 0] 24 (0, 0)); simpa using this⟩
   refine (graph_Validate.calls k a0_0 _ _ l0_1 0 _ (Kd.C_below HR0.out T0.hb) HC0.out HV.out).mono ?_; rintro e w1 ⟨rfl, hb⟩; have T1 := Aside0.mk (T0.step hb); have GR : Aside0 (w.heap.size ≤ w.heap.size + 1) := ⟨Nat.le_succ w.heap.size⟩; have GN : Aside0 (w.heap.size ≠ w.heap.size + 1) := ⟨Nat.ne_of_lt (Nat.lt_succ_self w.heap.size)⟩; clear T0 hb; generalize hgr : w.heap.size + 1 = gr at T1 GR GN ⊢; generalize hgb : w.heap.size = gb at T1 GN ⊢; clear hgr; have GB : Aside0 (w.heap.size ≤ gb) := ⟨Nat.le_of_eq hgb⟩; clear hgb; have hmm := @run_makeMap Tryd.prog; go_upto_region 5 with (fail)
   clear hmm; have M2 : Aside0 (MapIs (w1.alloc (.map #[] 0)) w1.heap.size []) := ⟨blk_new w1 _⟩; have T2 := Aside0.mk (T1.out.alloc (.map #[] 0)); have BM : Aside0 (w.heap.size ≤ w1.heap.size) := ⟨T1.out.hb.size⟩; have BN : Aside0 (w1.heap.size ≠ gb) := ⟨Nat.ne_of_gt (lt_of_blk T1.out.bg)⟩; have BR : Aside0 (w1.heap.size ≠ gr) := ⟨Nat.ne_of_gt (lt_of_blk T1.out.br)⟩; clear T1; generalize w1.alloc (.map #[] 0) = w2 at M2 T2 ⊢; generalize w1.heap.size = bm at M2 BM BN BR ⊢; have hcz0 : w2.cell? ⟨gb, 0, none⟩ = some (.int .i64 a0_0) := (blk_cell T2.out.bg 0).trans rfl; have hcz1 : w2.cell? ⟨gb, 1, none⟩ = some (.slice A0_1 l0_1.length c0_1) := (blk_cell T2.out.bg 1).trans rfl; go_wp2_with fail; clear hcz0 hcz1; go_loopg [28] l0_1.length (fun kq v28 w' => ∃ i : Nat, v28 = .int .i64 i ∧ Aside0 (kq + i = l0_1.length) ∧ Aside0 (TW w w' gb gr (.cells #[.int .i64 a0_0, .slice A0_1 l0_1.length c0_1] 24 (0, 0)) (.cells #[.int .i64 0, .slice none 0 0] 24 (0, 0))) ∧ Aside0 (MapIs w' bm (tog1 (l0_1.take i))))
   case atStart => exact ⟨0, rfl, ⟨rfl⟩, T2, M2⟩
   case round =>
    clear T2 M2; obtain ⟨i, rfl, HI, T2, M2⟩ := hrel; cases gk with
    | succ k1 =>
     have hi : i < l0_1.length := by have := HI.out; omega
     have hl : l0_1.length ≤ 9223372036854775807 := HR0.out.2.1; obtain ⟨ad, e0, hx0, hx1⟩ := at_T42 (Kd.C_below HR0.out T2.out.hb) (i : Int) (by omega) (by omega); simp only [Int.toNat_natCast] at hx0 hx1; have hi0 : decide (i < l0_1.length) = true := decide_eq_true hi; have hi1 : decide ((i : Int) < (l0_1.length : Int)) = true := decide_eq_true (by omega); cases e0; go_upto_region 8 with (fail)
     have hup := update_run (M2.out.alloc (.cells #[.int .i64 (rd_T42 l0_1 i).f0, .int .i64 (rd_T42 l0_1 i).f1] 42)) (rd_T42 l0_1 i) true; simp only [mKey] at hup; have T3 := Aside0.mk ((T2.out.alloc (.cells #[.int .i64 (rd_T42 l0_1 i).f0, .int .i64 (rd_T42 l0_1 i).f1] 42)).mset (b := bm) (.map (mEsL (mput (tog1 (l0_1.take i)) (rd_T42 l0_1 i) true) 0).toArray (mput (tog1 (l0_1.take i)) (rd_T42 l0_1 i) true).length) BM.out BN.out BR.out); have M3 := Aside0.mk ((M2.out.alloc (.cells #[.int .i64 (rd_T42 l0_1 i).f0, .int .i64 (rd_T42 l0_1 i).f1] 42)).put (mput (tog1 (l0_1.take i)) (rd_T42 l0_1 i) true)); clear T2 M2 hx0 hx1; generalize setBlock (wr.alloc (.cells #[.int .i64 (rd_T42 l0_1 i).f0, .int .i64 (rd_T42 l0_1 i).f1] 42)) bm (.map (mEsL (mput (tog1 (l0_1.take i)) (rd_T42 l0_1 i) true) 0).toArray (mput (tog1 (l0_1.take i)) (rd_T42 l0_1 i) true).length) = w3 at hup T3 M3; rw [tog1_snoc l0_1 i hi] at M3; go_wp2; go_roundg k1
     case measure => omega
     case rel => exact ⟨i + 1, by go_num, ⟨by have := HI.out; omega⟩, T3, M3⟩
    | zero =>
     have hi : i = l0_1.length := by have := HI.out; omega
     subst hi; rw [List.take_length] at M2; have hi0 : decide (l0_1.length < l0_1.length) = false := by simp
     have hi1 : decide ((l0_1.length : Int) < (l0_1.length : Int)) = false := by simp
     go_wp2_with fail; clear hi0 hi1; go_loopg [37] l1.length (fun kq v37 w' => ∃ i : Nat, v37 = .int .i64 i ∧ Aside0 (kq + i = l1.length) ∧ Aside0 (TW w w' gb gr (.cells #[.int .i64 a0_0, .slice A0_1 l0_1.length c0_1] 24 (0, 0)) (.cells #[.int .i64 0, .slice none 0 0] 24 (0, 0))) ∧ Aside0 (MapIs w' bm (tog1 l0_1)) ∧ Aside0 ((l1.take i).any (rangeBad a0_0) = false))
     case atStart => exact ⟨0, rfl, ⟨rfl⟩, T2, M2, ⟨rfl⟩⟩
     case round =>
      clear T2 M2 HI; obtain ⟨i, rfl, HI, T2, M2, HA⟩ := hrel; cases gk with
      | succ k1 =>
       have hi : i < l1.length := by have := HI.out; omega
       have hl : l1.length ≤ 9223372036854775807 := HR1.out.2.1; obtain ⟨ad, e0, hx0, hx1⟩ := at_T42 (Kd.C_below HR1.out T2.out.hb) (i : Int) (by omega) (by omega); simp only [Int.toNat_natCast] at hx0 hx1; have hi0 : decide (i < l1.length) = true := decide_eq_true hi; have hi1 : decide ((i : Int) < (l1.length : Int)) = true := decide_eq_true (by omega); cases e0; go_upto_region 13 with (fail)
       have T3 := Aside0.mk (T2.out.alloc (.cells #[.int .i64 (rd_T42 l1 i).f0, .int .i64 (rd_T42 l1 i).f1] 42)); have M3 := Aside0.mk (M2.out.alloc (.cells #[.int .i64 (rd_T42 l1 i).f0, .int .i64 (rd_T42 l1 i).f1] 42)); have P3 := Aside0.mk (blk_new wr (.cells #[.int .i64 (rd_T42 l1 i).f0, .int .i64 (rd_T42 l1 i).f1] 42 (0, 0))); clear T2 M2 hx0 hx1; generalize wr.alloc (.cells #[.int .i64 (rd_T42 l1 i).f0, .int .i64 (rd_T42 l1 i).f1] 42) = w3 at T3 M3 P3 ⊢; generalize wr.heap.size = gp at P3 ⊢; have hcz0 : w3.cell? ⟨gb, 0, none⟩ = some (.int .i64 a0_0) := (blk_cell T3.out.bg 0).trans rfl; have hcz1 := zc P3 0; have hcz2 := zc P3 1; have hfz0 := blk_frozen T3.out.br 0; have hfz1 := blk_frozen T3.out.br 1; have HS := rd_take l1 i hi; generalize rd_T42 l1 i = p at HS hcz1 hcz2 P3 ⊢; have hcz3 : w3.cell? ⟨gr, 0, none⟩ = some (.int .i64 0) := (blk_cell T3.out.br 0).trans rfl; have hcz4 : w3.cell? ⟨gr, 1, none⟩ = some (.slice none 0 0) := (blk_cell T3.out.br 1).trans rfl
       have hb1 : rangeBad a0_0 p = true ∨ (decide (p.f0 < 0) = false ∧ decide (p.f0 ≥ a0_0) = false ∧ decide (p.f1 < 0) = false ∧ decide (p.f1 ≥ a0_0) = false) := by
        unfold rangeBad; cases decide (p.f0 < 0) <;> cases decide (p.f0 ≥ a0_0) <;> cases decide (p.f1 < 0) <;> cases decide (p.f1 ≥ a0_0) <;> simp
       rcases hb1 with hb1 | ⟨g1, g2, g3, g4⟩
       · have HBAD := Aside0.mk hb1
         have hb2 : (decide (p.f0 < 0) = true) ∨ (decide (p.f0 < 0) = false ∧ decide (p.f0 ≥ a0_0) = true) ∨ (decide (p.f0 < 0) = false ∧ decide (p.f0 ≥ a0_0) = false ∧ decide (p.f1 < 0) = true) ∨ (decide (p.f0 < 0) = false ∧ decide (p.f0 ≥ a0_0) = false ∧ decide (p.f1 < 0) = false ∧ decide (p.f1 ≥ a0_0) = true) := by
          unfold rangeBad at hb1; revert hb1; cases decide (p.f0 < 0) <;> cases decide (p.f0 ≥ a0_0) <;> cases decide (p.f1 < 0) <;> cases decide (p.f1 ≥ a0_0) <;> simp
         clear hb1
         have hbad : l1.any (rangeBad a0_0) = true := by
          rw [← List.take_append_drop (i + 1) l1, List.any_append, HS, List.any_append]; simp [HBAD.out]
         have HX := H'.out; rw [if_pos hbad] at HX; simp only [Option.some.injEq, Prod.mk.injEq] at HX; obtain ⟨rfl, rfl, rfl⟩ := HX; have HE := Aside0.mk (tog_end T3.out GR.out); clear H' HS hbad HBAD HA; rcases hb2 with g1 | ⟨g1, g2⟩ | ⟨g1, g2, g3⟩ | ⟨g1, g2, g3, g4⟩
         all_goals go_wp2
         all_goals refine bodyPost_ret (results_ct rfl _ _ gr 24 #[.int .i64 0, .slice none 0 0] (0, 0) _ rfl HE.out.1 Tryd.underlying24 rfl (by kernel_rfl)) rfl ?_
         all_goals exact ⟨_, rfl, Kd.R_nil _ _ _ _ _, HE.out.2⟩
       · go_wp2; go_roundg k1
         case measure => omega
         case rel => exact ⟨i + 1, by go_num, ⟨by have := HI.out; omega⟩, T3, M3, ⟨by rw [HS, List.any_append, HA.out]; simp [rangeBad, g1, g2, g3, g4]⟩⟩
      | zero =>
       have hi : i = l1.length := by have := HI.out; omega
       subst hi; rw [List.take_length] at HA; have hi0 : decide (l1.length < l1.length) = false := by simp
       have hi1 : decide ((l1.length : Int) < (l1.length : Int)) = false := by simp
       have HX := H'.out; rw [HA.out, if_neg (by simp)] at HX; have HY := Aside0.mk (Option.some.inj HX); clear H' HX HA; have hmm := @run_makeMap Tryd.prog; go_upto_region 17 with (fail)
       clear hmm; have M3 := Aside0.mk (M2.out.alloc (.map #[] 0)); have T3 := Aside0.mk (T2.out.alloc (.map #[] 0)); have S3 : Aside0 (MapIs (wr.alloc (.map #[] 0)) wr.heap.size []) := ⟨blk_new wr _⟩; have SM : Aside0 (w.heap.size ≤ wr.heap.size) := ⟨T2.out.hb.size⟩; have SN : Aside0 (wr.heap.size ≠ gb) := ⟨Nat.ne_of_gt (lt_of_blk T2.out.bg)⟩; have SR : Aside0 (wr.heap.size ≠ gr) := ⟨Nat.ne_of_gt (lt_of_blk T2.out.br)⟩; have SB : Aside0 (wr.heap.size ≠ bm) := ⟨Nat.ne_of_gt (lt_of_blk M2.out)⟩; clear T2 M2 hi0 hi1; generalize wr.alloc (.map #[] 0) = w4 at M3 T3 S3 ⊢; generalize wr.heap.size = bs at S3 SM SN SR SB ⊢; go_wp2_with fail; go_loopg [68] l1.length (fun kq v68 w' => ∃ (i : Nat) (seen there : List (S42 × Bool)), v68 = .int .i64 i ∧ Aside0 (kq + i = l1.length) ∧ Aside0 (TW w w' gb gr (.cells #[.int .i64 a0_0, .slice A0_1 l0_1.length c0_1] 24 (0, 0)) (.cells #[.int .i64 0, .slice none 0 0] 24 (0, 0))) ∧ Aside0 (MapIs w' bm there) ∧ Aside0 (MapIs w' bs seen) ∧ Aside0 (tog3 (l1.drop i) seen there = tog3 l1 [] (tog1 l0_1)))
       case atStart => exact ⟨0, _, _, rfl, ⟨rfl⟩, T3, M3, S3, ⟨rfl⟩⟩
       case round =>
        clear T3 M3 S3 HI; obtain ⟨i, seen, there, rfl, HI, T2, M2, S2, HA⟩ := hrel; cases gk with
        | succ k1 =>
         have hi : i < l1.length := by have := HI.out; omega
         have hl : l1.length ≤ 9223372036854775807 := HR1.out.2.1; obtain ⟨ad, e0, hx0, hx1⟩ := at_T42 (Kd.C_below HR1.out T2.out.hb) (i : Int) (by omega) (by omega); simp only [Int.toNat_natCast] at hx0 hx1; have hi0 : decide (i < l1.length) = true := decide_eq_true hi; have hi1 : decide ((i : Int) < (l1.length : Int)) = true := decide_eq_true (by omega); cases e0; go_upto_region 20 with (fail)
         have T3 := Aside0.mk (T2.out.alloc (.cells #[.int .i64 (rd_T42 l1 i).f0, .int .i64 (rd_T42 l1 i).f1] 42)); have M3 := Aside0.mk (M2.out.alloc (.cells #[.int .i64 (rd_T42 l1 i).f0, .int .i64 (rd_T42 l1 i).f1] 42)); have S3 := Aside0.mk (S2.out.alloc (.cells #[.int .i64 (rd_T42 l1 i).f0, .int .i64 (rd_T42 l1 i).f1] 42)); have P3 := Aside0.mk (blk_new wr (.cells #[.int .i64 (rd_T42 l1 i).f0, .int .i64 (rd_T42 l1 i).f1] 42 (0, 0))); have PB : Aside0 (wr.heap.size ≠ bs) := ⟨Nat.ne_of_gt (lt_of_blk S2.out)⟩; clear T2 M2 S2 hx0 hx1; generalize wr.alloc (.cells #[.int .i64 (rd_T42 l1 i).f0, .int .i64 (rd_T42 l1 i).f1] 42) = w3 at T3 M3 S3 P3 ⊢; generalize wr.heap.size = gp at P3 PB ⊢; have HS := Aside0.mk (rd_drop l1 i hi); generalize rd_T42 l1 i = p at HS P3 ⊢; have hcz1 := zc P3 0; have hcz2 := zc P3 1; have hlk := lookup_run S3.out p; simp only [mKey] at hlk; cases hm : mget seen p with
         | true =>
          rw [hm] at hlk; have hz : tog3 (l1.drop i) seen there = none := by rw [HS.out]; simp [tog3, hm]
          have HX := HY.out; rw [← HA.out, hz] at HX; simp only [togEnd, Prod.mk.injEq] at HX; obtain ⟨rfl, rfl, rfl⟩ := HX; have HE := Aside0.mk (tog_end T3.out GR.out); have hcz3 : w3.cell? ⟨gr, 0, none⟩ = some (.int .i64 0) := (blk_cell T3.out.br 0).trans rfl; have hcz4 : w3.cell? ⟨gr, 1, none⟩ = some (.slice none 0 0) := (blk_cell T3.out.br 1).trans rfl; have hfz0 := blk_frozen T3.out.br 0; have hfz1 := blk_frozen T3.out.br 1; clear hz HA HY HS hm; go_wp2; refine bodyPost_ret (results_ct rfl _ _ gr 24 #[.int .i64 0, .slice none 0 0] (0, 0) _ rfl HE.out.1 Tryd.underlying24 rfl (by kernel_rfl)) rfl ?_; exact ⟨_, rfl, Kd.R_nil _ _ _ _ _, HE.out.2⟩
         | false =>
          rw [hm] at hlk; go_upto_region 22 with (fail)
          have hlk2 := lookup_run (W := w3.drew) (show MapIs w3.drew bm there from M3.out) p; have hup1 := update_run (W := w3.drew) (show MapIs w3.drew bs seen from S3.out) p true; have S4 := Aside0.mk (MapIs.put (W := w3.drew) (show MapIs w3.drew bs seen from S3.out) (mput seen p true)); have M4 := Aside0.mk (MapIs.other (W := w3.drew) (show MapIs w3.drew bm there from M3.out) (.map (mEsL (mput seen p true) 0).toArray (mput seen p true).length) SB.out); have T4 := Aside0.mk (TW.mset (W := w3.drew) T3.out.drew (.map (mEsL (mput seen p true) 0).toArray (mput seen p true).length) SM.out SN.out SR.out); have hcy1 : w3.drew.cell? ⟨gp, 0, none⟩ = some (.int .i64 p.f0) := hcz1; have hcy2 : w3.drew.cell? ⟨gp, 1, none⟩ = some (.int .i64 p.f1) := hcz2; have P5 : (setBlock w3.drew bs (.map (mEsL (mput seen p true) 0).toArray (mput seen p true).length)).heap[gp]? = some (.cells #[.int .i64 p.f0, .int .i64 p.f1] 42 (0, 0)) := by rw [setBlock_at, if_neg (Ne.symm PB.out)]; exact P3.out
          simp only [mKey] at hlk2 hup1; clear hcz1 hcz2 hlk; generalize hw5 : setBlock w3.drew bs (.map (mEsL (mput seen p true) 0).toArray (mput seen p true).length) = w5 at hup1 S4 M4 T4 P5; have hcx1 : w5.cell? ⟨gp, 0, none⟩ = some (.int .i64 p.f0) := (blk_cell P5 0).trans rfl; have hcx2 : w5.cell? ⟨gp, 1, none⟩ = some (.int .i64 p.f1) := (blk_cell P5 1).trans rfl; have hlk3 := lookup_run M4.out p; simp only [mKey] at hlk3; clear P5; have hup2 := update_run M4.out p (!mget there p); have M6 := Aside0.mk (M4.out.put (mput there p (!mget there p))); have S6 := Aside0.mk (S4.out.other (.map (mEsL (mput there p (!mget there p)) 0).toArray (mput there p (!mget there p)).length) (Ne.symm SB.out)); have T6 := Aside0.mk (T4.out.mset (.map (mEsL (mput there p (!mget there p)) 0).toArray (mput there p (!mget there p)).length) BM.out BN.out BR.out); simp only [mKey] at hup2; generalize setBlock w5 bm (.map (mEsL (mput there p (!mget there p)) 0).toArray (mput there p (!mget there p)).length) = w6 at hup2 S6 M6 T6; clear hw5
          have HN : Aside0 (tog3 (l1.drop (i + 1)) (mput seen p true) (mput there p (!mget there p)) = tog3 l1 [] (tog1 l0_1)) := ⟨by
           rw [← HA.out, HS.out]; simp [tog3, hm]⟩
          clear HA HS hm; go_region; go_wp2; go_roundg k1
          case measure => omega
          case rel => exact ⟨i + 1, _, _, by go_num, ⟨by have := HI.out; omega⟩, T6, M6, S6, HN⟩
        | zero =>
         have hi : i = l1.length := by have := HI.out; omega
         subst hi; rw [List.drop_length] at HA; have hi0 : decide (l1.length < l1.length) = false := by simp
         have hi1 : decide ((l1.length : Int) < (l1.length : Int)) = false := by simp
         have HX := HY.out; rw [← HA.out] at HX; simp only [tog3, togEnd, Prod.mk.injEq] at HX; obtain ⟨rfl, rfl, rfl⟩ := HX; clear HY S2; have hcz0 : wr.cell? ⟨gb, 0, none⟩ = some (.int .i64 a0_0) := (blk_cell T2.out.bg 0).trans rfl; go_upto_region 25 with (fail)
         have HTL : Aside0 (there.length < 1000000) := ⟨by
          have h1 := tog3_len l1 [] (tog1 l0_1) there (by rw [← HA.out]; rfl); have h2 := tog1_len l0_1; have h3 := HLEN.out; omega⟩
         clear HA; have T3 := Aside0.mk (T2.out.alloc (.cells #[.int .i64 a0_0, .slice none 0 0] 24)); have M3 := Aside0.mk (M2.out.alloc (.cells #[.int .i64 a0_0, .slice none 0 0] 24)); have O3 := Aside0.mk (blk_new wr (.cells #[.int .i64 a0_0, .slice none 0 0] 24 (0, 0))); have OB : Aside0 (w.heap.size ≤ wr.heap.size) := ⟨T2.out.hb.size⟩; have OR : Aside0 (wr.heap.size ≠ gr) := ⟨Nat.ne_of_gt (lt_of_blk T2.out.br)⟩; have OG : Aside0 (wr.heap.size ≠ gb) := ⟨Nat.ne_of_gt (lt_of_blk T2.out.bg)⟩; have OM : Aside0 (wr.heap.size ≠ bm) := ⟨Nat.ne_of_gt (lt_of_blk M2.out)⟩; clear T2 M2 hcz0; generalize wr.alloc (.cells #[.int .i64 a0_0, .slice none 0 0] 24) = w5 at T3 M3 O3 ⊢; generalize wr.heap.size = go at O3 OB OR OG OM ⊢; have hrg := range_run M3.out; have T4 := Aside0.mk (T3.out.alloc (.mapIter (some bm) there.length #[] there.length)); have M4 := Aside0.mk (M3.out.alloc (.mapIter (some bm) there.length #[] there.length)); have O4 := Aside0.mk (blk_alloc O3.out (.mapIter (some bm) there.length #[] there.length)); have I4 := Aside0.mk (blk_new w5 (.mapIter (some bm) there.length #[] there.length)); have IB : Aside0 (w.heap.size ≤ w5.heap.size) := ⟨T3.out.hb.size⟩; have IR : Aside0 (w5.heap.size ≠ gr) := ⟨Nat.ne_of_gt (lt_of_blk T3.out.br)⟩; have IG : Aside0 (w5.heap.size ≠ gb) := ⟨Nat.ne_of_gt (lt_of_blk T3.out.bg)⟩; have IO : Aside0 (w5.heap.size ≠ go) := ⟨Nat.ne_of_gt (lt_of_blk O3.out)⟩; have IM : Aside0 (w5.heap.size ≠ bm) := ⟨Nat.ne_of_gt (lt_of_blk M3.out)⟩; clear T3 M3 O3; generalize w5.alloc (.mapIter (some bm) there.length #[] there.length) = w6 at hrg T4 M4 O4 I4; generalize w5.heap.size = bi at hrg I4 IB IR IG IO IM; go_wp2_with fail; clear hrg; go_loopg [] there.length (fun kq w' => ∃ (V : List ((S42 × Bool) × Nat)) (sA : Array Nat) (v : Value), Aside0 (kq = (leftQ there sA).length) ∧ Aside0 ((V ++ leftQ there sA).Perm there.zipIdx) ∧ Aside0 (TW w w' gb gr (.cells #[.int .i64 a0_0, .slice A0_1 l0_1.length c0_1] 24 (0, 0)) (.cells #[.int .i64 0, .slice none 0 0] 24 (0, 0))) ∧ Aside0 (MapIs w' bm there) ∧ Aside0 (w'.heap[bi]? = some (.mapIter (some bm) there.length sA there.length)) ∧ Aside0 (w'.heap[go]? = some (.cells #[.int .i64 a0_0, v] 24 (0, 0))) ∧ Aside0 (Kd.R k42 42 w' w.heap.size (fun _ => True) v (togOut (V.map (·.1)))))
         case atStart => exact ⟨[], #[], .slice none 0 0, ⟨by rw [left_start]; simp⟩, ⟨by rw [left_start]; exact List.Perm.refl _⟩, T4, M4, I4, O4, ⟨Kd.R_nil _ _ _ _ _⟩⟩
         case round =>
          clear T4 M4 I4 O4 HI; obtain ⟨V, sA, v, HK, HP, T2, M2, I2, O2, R2⟩ := hrel; have hcz5 := zc O2 0; have hcz6 := zc O2 1; have HVL := Aside0.mk (Nat.le_trans (togOut_len V) (vis_len HP.out))
          go_wp2_with (first
           | ((with_reducible refine gate_dst (N := 90) rfl ?_); refine next_law2 rfl (.tmp 89) rfl rfl T2 M2 I2 O2 R2 IB IR IG IO IM ?hD ?hM; (case' hD => (intro HD)); (case' hM => (intro p isq qi HQ w8 T3 M3 I3 O3 R3 hen; clear T2 M2 I2 O2 R2 hcz5 hcz6; (obtain ⟨k1, hk1⟩ : ∃ k1, gk = k1 + 1 := ⟨_, HK.out.trans (left_len HQ.out)⟩); subst hk1; have T4 := Aside0.mk (T3.out.alloc (.cells #[.int .i64 p.f0, .int .i64 p.f1] 42)); have M4 := Aside0.mk (M3.out.alloc (.cells #[.int .i64 p.f0, .int .i64 p.f1] 42)); have I4 := Aside0.mk (blk_alloc I3.out (.cells #[.int .i64 p.f0, .int .i64 p.f1] 42)); have O4 := Aside0.mk (blk_alloc O3.out (.cells #[.int .i64 p.f0, .int .i64 p.f1] 42)); have R4 := Aside0.mk (Kd.R_alloc R3.out (.cells #[.int .i64 p.f0, .int .i64 p.f1] 42)); clear T3 M3 I3 O3 R3; have hcz5 : (w8.alloc (.cells #[.int .i64 p.f0, .int .i64 p.f1] 42)).cell? ⟨go, 0, none⟩ = some (.int .i64 a0_0) := (blk_cell O4.out 0).trans rfl; have hcz6 : (w8.alloc (.cells #[.int .i64 p.f0, .int .i64 p.f1] 42)).cell? ⟨go, 1, none⟩ = some v := (blk_cell O4.out 1).trans rfl; (cases isq))))
           | ((with_reducible refine gate_builtin (b := .append) (xs := #[.tmp 97, .tmp 99]) rfl ?_); at_builtin; refine Kd.R_append k42 (w0 := w) w.heap.size rfl (.tmp 97) (.tmp 99) 22 42 (.agg #[(.int .i64 0), (.int .i64 0)]) 16 rfl Tryd.underlying22 info42 rfl (by decide) (by omega) v (togOut (V.map (·.1))) p [.int .i64 p.f0, .int .i64 p.f1] (fun _ => True) (fun _ => False) rfl (congrArg (fun n => Value.slice (some ⟨n, 0, none⟩) 1 1) (Array.size_push ..).symm) (k42_mkM _ _ _ p) (fun _ hk => hk.elim) (fun _ _ => trivial) R4.out T4.out.hb T4.out.hb.size ?aL ?_; (case aL => have := HVL.out; have := HTL.out; omega); intro v9 w9 ho hb hg hat; have T5 : Aside0 (TW w w9 gb gr (.cells #[.int .i64 a0_0, .slice A0_1 l0_1.length c0_1] 24 (0, 0)) (.cells #[.int .i64 0, .slice none 0 0] 24 (0, 0))) := ⟨⟨hb, blk_grown T4.out.bg hg (Kd.R_ne R4.out T4.out.bg (by decide)), blk_grown T4.out.br hg (Kd.R_ne R4.out T4.out.br (by decide))⟩⟩; have M5 : Aside0 (MapIs w9 bm there) := ⟨(hg.block bm (lt_of_blk M4.out) (own_no_map R4.out M4.out)).trans M4.out⟩; have I5 : Aside0 (w9.heap[bi]? = some (.mapIter (some bm) there.length (sA.push qi) there.length)) := ⟨(hg.block bi (lt_of_blk I4.out) (own_no_iter R4.out I4.out)).trans I4.out⟩; have O5 := Aside0.mk (blk_grown O4.out hg (Kd.R_ne R4.out O4.out (by decide))); have R5 := Aside0.mk ho; (obtain ⟨A9, c9, hv9⟩ := Kd.R_slice R5.out); subst hv9; clear ho hb hg hat T4 M4 I4 O4 R4 hcz5 hcz6; have hcz5 := zc O5 0; have hcz6 := zc O5 1; have hfz5 := blk_frozen O5.out 1)
           | (go_at_call 42; refine (api_Pair_42.calls (fun k_ => some k_ = v.ownBlock) v (togOut (V.map (·.1))) (isP (togOut there)) w wr T2.out.hb (Kd.R_tight rfl R2.out) (tog_sort HD.out HP.out HTL.out)).mono ?_; rintro e wz ⟨rfl, R3, hb3, hk3⟩; have O3 := Aside0.mk (blk_kept O2.out hk3 (Kd.R_ne R2.out O2.out (by decide))); have Q3 := Aside0.mk (blk_kept T2.out.br hk3 (Kd.R_ne R2.out T2.out.br (by decide))); (obtain ⟨Av, cv, hv⟩ := Kd.R_slice R3); subst hv; have R4 := Aside0.mk R3; have B4 := Aside0.mk hb3; clear R3 hb3 hk3 T2 M2 I2 O2 R2 hcz5 hcz6 HP HK HVL HD; have hcz5 := zc O3 0; have hcz6 := (blk_cell O3.out 1).trans rfl; have hcz3 := zc Q3 0; have hcz4 := zc Q3 1; have hfz0 := blk_frozen Q3.out 0; have hfz1 := blk_frozen Q3.out 1))
          · go_roundg k1
            case measure => have := HK.out.trans (left_len HQ.out); simp at this; omega
            case rel => exact ⟨V ++ [((p, false), qi)], sA.push qi, v, ⟨by have := HK.out.trans (left_len HQ.out); simp at this; omega⟩, ⟨vis_step HQ.out HP.out⟩, T4, M4, I4, O4, by rw [togOut_skip]; exact R4⟩
          · obtain ⟨T6, M6, I6, O6, R6⟩ := tog_store T5 M5 I5 O5 R5 OB.out OR.out OG.out OM.out IO.out; have hLp : (togOut (V.map (·.1)) ++ [p]).length = (togOut (V.map (·.1))).length + 1 := List.length_append; rw [hLp] at T6 M6 I6 O6 R6; go_roundg k1
            case measure => have := HK.out.trans (left_len HQ.out); simp at this; omega
            case rel => exact ⟨V ++ [((p, true), qi)], sA.push qi, .slice A9 _ c9, ⟨by have := HK.out.trans (left_len HQ.out); simp at this; omega⟩, ⟨vis_step HQ.out HP.out⟩, T6, M6, I6, O6, by rw [togOut_snoc]; exact R6⟩
          · obtain ⟨E1, E2, E3⟩ := tog_fin (n := .int .i64 a0_0) B4.out Q3.out GR.out R4.out; refine bodyPost_ret (results_ct rfl _ _ gr 24 #[.int .i64 a0_0, .slice Av _ cv] (0, 0) _ rfl E1 Tryd.underlying24 rfl (by kernel_rfl)) rfl ?_; exact ⟨_, rfl, E3, E2⟩
 · rw [if_neg ht] at H; simp only [Option.some.injEq, Prod.mk.injEq] at H; obtain ⟨rfl, rfl, rfl⟩ := H; go_enter Tryd.func21, Tryd.ntmps21; go_wp2_with fail
   have T0 : TW w ((w.alloc (.cells #[.int .i64 a0_0, .slice A0_1 l0_1.length c0_1] 24)).alloc (.cells #[.int .i64 0, .slice none 0 0] 24)) w.heap.size (w.heap.size + 1) (.cells #[.int .i64 a0_0, .slice A0_1 l0_1.length c0_1] 24 (0, 0)) (.cells #[.int .i64 0, .slice none 0 0] 24 (0, 0)) :=
    ⟨below_alloc (below_alloc (Below.refl _ _) _) _, blk_alloc (blk_new w _) _, by have := blk_new (w.alloc (.cells #[.int .i64 a0_0, .slice A0_1 l0_1.length c0_1] 24)) (.cells #[.int .i64 0, .slice none 0 0] 24 (0, 0)); simpa using this⟩
   refine (graph_Validate.calls k a0_0 _ _ l0_1 t _ (Kd.C_below HR0.out T0.hb) HC0.out HV.out).mono ?_; rintro e w1 ⟨rfl, hb⟩; have T1 := Aside0.mk (T0.step hb); have GR : Aside0 (w.heap.size ≤ w.heap.size + 1) := ⟨Nat.le_succ w.heap.size⟩; have GN : Aside0 (w.heap.size ≠ w.heap.size + 1) := ⟨Nat.ne_of_lt (Nat.lt_succ_self w.heap.size)⟩; clear T0 hb; generalize hgr : w.heap.size + 1 = gr at T1 GR GN ⊢; generalize hgb : w.heap.size = gb at T1 GN ⊢; clear hgr; have GB : Aside0 (w.heap.size ≤ gb) := ⟨Nat.le_of_eq hgb⟩; clear hgb; have hct : ¬ (t = 0) := ht; have hct2 : decide (t = 0) = false := decide_eq_false ht; have HE := Aside0.mk (tog_end T1.out GR.out); have hcz3 : w1.cell? ⟨gr, 0, none⟩ = some (.int .i64 0) := (blk_cell T1.out.br 0).trans rfl; have hcz4 : w1.cell? ⟨gr, 1, none⟩ = some (.slice none 0 0) := (blk_cell T1.out.br 1).trans rfl; have hfz0 := blk_frozen T1.out.br 0; have hfz1 := blk_frozen T1.out.br 1; go_wp2; refine bodyPost_ret (results_ct rfl _ _ gr 24 #[.int .i64 0, .slice none 0 0] (0, 0) _ rfl HE.out.1 Tryd.underlying24 rfl (by kernel_rfl)) rfl ?_; exact ⟨_, rfl, Kd.R_nil _ _ _ _ _, HE.out.2⟩
end Go.Proofs.YtjmdlmogdbhdhaaDoor.P
namespace Go.Proofs.YtjmdlmogdbhdhaaDoor.P
open Go.RowKit Go.Proofs.YtjmdlmogdbhdhaaDoorW.PrintWords Go.Proofs.YtjmdlmogdbhdhaaDoorW.PrintLast Go.Proofs.YtjmdlmogdbhdhaaDoorW.PrintMore
attribute [local go_sem] max2_int min2_int max_two min_two max_three min_three max_four min_four
set_option linter.unusedVariables false
set_option linter.unusedSimpArgs false
/-- A state of type 64 at block g of W; what its slices lead to came in by w0. -/
def IsS64 (w0 W : World) (g : Nat) (f0 : List Int) (f1 : Int) : Prop := ∃ A0 c0, W.heap[g]? = some (.cells #[.slice A0 f0.length c0, .int .i64 f1] 64 (0, 0)) ∧ w0.heap.size ≤ g ∧ Kd.C (Kd.int .i64) w0 A0 f0.length f0
theorem IsS64.grown {w0 W : World} {g : Nat} {f0 : List Int} {f1 : Int} {W1 : World} {row : Option Nat} (h : IsS64 w0 W g f0 f1) (hw : W.grownBy W1 row) (hne : some g ≠ row) : IsS64 w0 W1 g f0 f1 := by
 obtain ⟨A0, c0, hb, hg, hr0⟩ := h; exact ⟨A0, c0, blk_grown hb hw hne, hg, hr0⟩
theorem IsS64.own_neN {w0 W : World} {g : Nat} {f0 : List Int} {f1 : Int} {α : Type} {d : Kd α} {e : Nat} {base : Nat} {ok : Nat → Prop} {v : Value} {xs : List α} (h : IsS64 w0 W g f0 f1) (ho : Kd.N d e W base ok v xs) (ht : e ≠ 64) : some g ≠ v.ownBlock := by
 obtain ⟨A0, c0, hb, hg, hr0⟩ := h; exact Kd.N_ne ho hb ht
theorem IsS64.fresh {w0 W : World} {g : Nat} {f0 : List Int} {f1 : Int} (h : IsS64 w0 W g f0 f1) : ∀ k, W.heap.size ≤ k → k ≠ g := by
 obtain ⟨A0, c0, hb, hg, hr0⟩ := h; exact Kd.freshB hb
theorem IsS64.kept {w0 W : World} {g : Nat} {f0 : List Int} {f1 : Int} {W1 : World} {S : Nat → Prop} (h : IsS64 w0 W g f0 f1) (hk : Kept W W1 S) (hne : ¬ S g) : IsS64 w0 W1 g f0 f1 := by
 obtain ⟨A0, c0, hb, hg, hr0⟩ := h; exact ⟨A0, c0, blk_kept hb hk hne, hg, hr0⟩
theorem IsS64.below {w0 W : World} {g : Nat} {f0 : List Int} {f1 : Int} {W1 : World} (h : IsS64 w0 W g f0 f1) (hw : Below W.heap.size W W1) : IsS64 w0 W1 g f0 f1 := h.grown (grown_of_below hw none) (by simp)
theorem IsS64.alloc {w0 W : World} {g : Nat} {f0 : List Int} {f1 : Int} (h : IsS64 w0 W g f0 f1) (o : Obj) : IsS64 w0 (W.alloc o) g f0 f1 := h.below (below_alloc (Below.refl _ _) o)
theorem IsS64.drewN {w0 W : World} {g : Nat} {f0 : List Int} {f1 : Int} (h : IsS64 w0 W g f0 f1) (m : Nat) : IsS64 w0 (W.drewN m) g f0 f1 := h
theorem IsS64.drew {w0 W : World} {g : Nat} {f0 : List Int} {f1 : Int} (h : IsS64 w0 W g f0 f1) : IsS64 w0 W.drew g f0 f1 := h
theorem IsS64.at_ {w0 W : World} {g : Nat} {f0 : List Int} {f1 : Int} {w' : World} {m : Nat} (hq : W.drewN m = w') (h : IsS64 w0 W g f0 f1) : IsS64 w0 w' g f0 f1 := by subst hq; exact IsS64.drewN h m
theorem IsS64.apart {w0 W : World} {g : Nat} {f0 : List Int} {f1 : Int} {α : Type} {d : Kd α} {e : Nat} {base : Nat} {ok : Nat → Prop} {v : Value} {xs : List α} (h : IsS64 w0 W g f0 f1) (ho : d.R e W base ok v xs) (ht : ∀ q, q ∈ e :: d.E → q ≠ 64) : d.R e W base (fun k => ok k ∧ k ≠ g) v xs := by
 obtain ⟨A0, c0, hb, hg, hr0⟩ := h; exact Kd.R_types ho hb ht
theorem IsS64.own_ne {w0 W : World} {g : Nat} {f0 : List Int} {f1 : Int} {α : Type} {d : Kd α} {e : Nat} {base : Nat} {ok : Nat → Prop} {v : Value} {xs : List α} (h : IsS64 w0 W g f0 f1) (ho : d.R e W base ok v xs) (ht : e ≠ 64) : some g ≠ v.ownBlock := by
 obtain ⟨A0, c0, hb, hg, hr0⟩ := h; exact Kd.R_ne ho hb ht
theorem IsS64.apartQ {w0 W : World} {g : Nat} {f0 : List Int} {f1 : Int} {α : Type} {d : Kd α} {e : Nat} {base : Nat} {ok : Nat → Prop} {v : Value} {xs : List α} (h : IsS64 w0 W g f0 f1) (ho : d.Q e W base ok v xs) (ht : ∀ q, q ∈ e :: d.E → q ≠ 64) : d.Q e W base (fun k => ok k ∧ k ≠ g) v xs := by
 obtain ⟨A0, c0, hb, hg, hr0⟩ := h; exact Kd.Q_types ho hb ht
theorem IsS64.own_neQ {w0 W : World} {g : Nat} {f0 : List Int} {f1 : Int} {α : Type} {d : Kd α} {e : Nat} {base : Nat} {ok : Nat → Prop} {v : Value} {xs : List α} (h : IsS64 w0 W g f0 f1) (ho : d.Q e W base ok v xs) (ht : e ≠ 64) : some g ≠ v.ownBlock := by
 obtain ⟨A0, c0, hb, hg, hr0⟩ := h; exact Kd.Q_ne ho hb ht
theorem IsS64.apartS {w0 W : World} {g : Nat} {f0 : List Int} {f1 : Int} {α : Type} {d : Kd α} {e : Nat} {base : Nat} {ok : Nat → Prop} {v : Value} {xs : List α} (h : IsS64 w0 W g f0 f1) (ho : d.S e W base ok v xs) (ht : ∀ q, q ∈ e :: d.E → q ≠ 64) : d.S e W base (fun k => ok k ∧ k ≠ g) v xs := by
 obtain ⟨A0, c0, hb, hg, hr0⟩ := h; exact Kd.S_types ho hb ht
theorem IsS64.own_neS {w0 W : World} {g : Nat} {f0 : List Int} {f1 : Int} {α : Type} {d : Kd α} {e : Nat} {base : Nat} {ok : Nat → Prop} {v : Value} {xs : List α} (h : IsS64 w0 W g f0 f1) (ho : d.S e W base ok v xs) (ht : e ≠ 64) : some g ≠ v.ownBlock := by
 obtain ⟨A0, c0, hb, hg, hr0⟩ := h; exact Kd.S_ne ho hb ht
theorem IsS64.lt {w0 W : World} {g : Nat} {f0 : List Int} {f1 : Int} (h : IsS64 w0 W g f0 f1) : g < W.heap.size := by
 obtain ⟨A0, c0, hb, hg, hr0⟩ := h; exact blk_lt hb
theorem IsS64.ge {w0 W : World} {g : Nat} {f0 : List Int} {f1 : Int} (h : IsS64 w0 W g f0 f1) : w0.heap.size ≤ g := by
 obtain ⟨A0, c0, hb, hg, hr0⟩ := h; exact hg
theorem IsS64.ne_blk {w0 W : World} {g : Nat} {f0 : List Int} {f1 : Int} {a : Nat} {cs : Array Value} {t : TypeId} {fr : Nat × Nat} (h : IsS64 w0 W g f0 f1) (hb2 : W.heap[a]? = some (.cells cs t fr)) (ht : t ≠ 64) : g ≠ a := by
 obtain ⟨A0, c0, hb, hg, hr0⟩ := h; rintro rfl; rw [hb] at hb2; injection hb2 with hb2
 injection hb2 with _ ht2
 exact ht ht2.symm
theorem IsS64.far {w0 W : World} {g : Nat} {f0 : List Int} {f1 : Int} {p : Addr} (h : IsS64 w0 W g f0 f1) (hne : g ≠ p.block) (u : Value) : IsS64 w0 (W.setCell p u) g f0 f1 := by
 obtain ⟨A0, c0, hb, hg, hr0⟩ := h; exact ⟨A0, c0, blk_far hb hne u, hg, hr0⟩
theorem cellS64_0 {W : World} {g : Nat} {A0 : Option Addr} {c0 : Nat} {f0 : List Int} {f1 : Int} (h : W.heap[g]? = some (.cells #[.slice A0 f0.length c0, .int .i64 f1] 64 (0, 0))) : W.cell? ⟨g, 0, none⟩ = some (.slice A0 f0.length c0) := (blk_cell h 0).trans rfl
theorem cellS64_1 {W : World} {g : Nat} {A0 : Option Addr} {c0 : Nat} {f0 : List Int} {f1 : Int} (h : W.heap[g]? = some (.cells #[.slice A0 f0.length c0, .int .i64 f1] 64 (0, 0))) : W.cell? ⟨g, 1, none⟩ = some (.int .i64 f1) := (blk_cell h 1).trans rfl
theorem IsS64.set_1 {w0 W : World} {g : Nat} {f0 : List Int} {f1 : Int} (h : IsS64 w0 W g f0 f1) (x : Int) : IsS64 w0 (W.setCell ⟨g, 1, none⟩ (.int .i64 x)) g f0 x := by
 obtain ⟨A0, c0, hb, hg, hr0⟩ := h; exact ⟨A0, c0, by simpa using blk_set hb 1 (.int .i64 x), hg, hr0⟩
theorem IsS64.new (w0 W : World) (A0 : Option Addr) (c0 : Nat) (f0 : List Int) (f1 : Int) (hB : Below w0.heap.size w0 W) (hr0 : Kd.C (Kd.int .i64) w0 A0 f0.length f0) : IsS64 w0 (W.alloc (.cells #[.slice A0 f0.length c0, .int .i64 f1] 64)) W.heap.size f0 f1 := ⟨A0, c0, by simpa using heap_alloc_new W _, hB.size, hr0⟩
def deliberationkeep_New.f (l0 : List Int) : Option (List Int × Int) := if 0 ≤ (mn (l0.length : Int) 2000) then (if (mn (l0.length : Int) 2000) ≤ (l0.length : Int) then (some (l0.take ((mn (l0.length : Int) 2000) : Int).toNat, 0)) else (none)) else (none)
set_option maxHeartbeats 8000000 in
set_option maxRecDepth 100000 in
theorem deliberationkeep_New.calls (A0 : Option Addr) (c0 : Nat) (l0 : List Int) (r1 : List Int) (r2 : Int) (w0 w : World) (hB : Below w0.heap.size w0 w) (hr0 : Kd.C (Kd.int .i64) w0 A0 l0.length l0) (hc0 : l0.length ≤ c0) (h : deliberationkeep_New.f l0 = some (r1, r2)) :
 Calls Tryd.prog 11 #[.slice A0 l0.length c0] w fun e w' => ∃ g_ : Nat, e = .returned (.pointer (some ⟨g_, 0, none⟩)) ∧ IsS64 w0 w' g_ r1 r2 ∧ Below w0.heap.size w0 w' ∧ Below w.heap.size w w' := by
 have hu64 := Tryd.underlying64; have HR0 := Aside0.mk hr0; have HC0 := Aside0.mk hc0; clear hr0 hc0; have HBW := Aside0.mk (Below.refl w.heap.size w); have HW0 := Aside0.mk hB.size; have HB := Aside0.mk hB; clear hB; have H : (if 0 ≤ (mn (l0.length : Int) 2000) then (if (mn (l0.length : Int) 2000) ≤ (l0.length : Int) then (some (l0.take ((mn (l0.length : Int) 2000) : Int).toNat, 0)) else (none)) else (none)) = some (r1, r2) := h; clear h; obtain ⟨ji2, hji2⟩ : ∃ j_ : Int, (mn (l0.length : Int) 2000) = j_ := ⟨_, rfl⟩; replace H : (if 0 ≤ (ji2) then (if (ji2) ≤ (l0.length : Int) then (some (l0.take ((ji2) : Int).toNat, 0)) else (none)) else (none)) = some (r1, r2) := by first | (rw [hji2] at H; exact H) | (simp only [hji2] at H ⊢; exact H)
 (try (have hji2h : ji2 ≤ 2000 := by (rw [← hji2]; unfold mn; (repeat' split) <;> omega))); (try (have hji2g : ji2 ≤ 64 := by omega)); (try (have hji2l : 0 ≤ ji2 := by (rw [← hji2]; unfold mn; (repeat' split) <;> omega))); (try (have hji2m : 0 ≤ ji2 := by omega)); have hji2_ : (if 2000 < (l0.length : Int) then 2000 else (l0.length : Int)) = ji2 := hji2; by_cases c3 : 0 ≤ (ji2)
 · rw [if_pos c3] at H; have c3b0 := eq_true c3; have c3b1 : decide (0 ≤ (ji2)) = true := decide_eq_true c3; clear c3; by_cases c4 : (ji2) ≤ (l0.length : Int)
   · rw [if_pos c4] at H; have c4b0 := eq_true c4; have c4b1 : decide ((ji2) ≤ (l0.length : Int)) = true := decide_eq_true c4; clear c4; simp only [Option.some.injEq, Prod.mk.injEq] at H; obtain ⟨rfl, rfl⟩ := H; obtain ⟨i05, hi05, _, hsz5, _⟩ := info_parts info3; obtain ⟨hcut5, hA5, hC5⟩ := print_take_of (P := Tryd.prog) (Value.int .i64) 0 25 3 .i64 Tryd.underlying25 hi05 hsz5 A0 c0 l0 (ji2) (of_decide_eq_true (by first | (with_reducible assumption) | assumption)) (of_decide_eq_true (by first | (with_reducible assumption) | assumption)) HC0.out; have HR316 := Aside0.mk (Kd.C_of_reads (h1 := fun _ => rfl) (hA5 _ (Kd.reads_of_C HR0.out))); have HC316 := Aside0.mk hC5; clear hA5 hC5 hi05 hsz5; go_enter Tryd.func11, Tryd.ntmps11; go_wp2_with (first | ((with_reducible refine gate_dst (N := 9) rfl ?_); refine zX (N := 9) (cs := #[.slice A0 (l0.take ((ji2) : Int).toNat).length c0, .int .i64 0]) (t := 64) ?_; intro gb317 hg w6 hbox hb; have BK317 := Aside0.mk (hbox); have GW317 := Aside0.mk (zW hg HBW); have GE317 := Aside0.mk ((Nat.le_trans HW0.out (by rw [hg]; exact (below_size (zB HBW)) : w.heap.size ≤ gb317) : w0.heap.size ≤ gb317)); replace HBW := Aside0.mk (below_step HBW.out hb); replace HB := Aside0.mk (below_step (zB HB) hb); clear hb hbox hg)); go_ret; exact ⟨_, rfl, (show IsS64 w0 _ gb317 (l0.take ((ji2) : Int).toNat) 0 from ⟨_, _, by refine zk ?_; exact BK317.out, GE317.out, HR316.out⟩), zB HB, zB HBW⟩
   · rw [if_neg c4] at H; exact absurd H (by simp)
 · rw [if_neg c3] at H; exact absurd H (by simp)
end Go.Proofs.YtjmdlmogdbhdhaaDoor.P
namespace Go.Proofs.YtjmdlmogdbhdhaaDoor.P
open Go.RowKit Go.Proofs.YtjmdlmogdbhdhaaDoorW.PrintWords Go.Proofs.YtjmdlmogdbhdhaaDoorW.PrintLast Go.Proofs.YtjmdlmogdbhdhaaDoorW.PrintMore
attribute [local go_sem] max2_int min2_int max_two min_two max_three min_three max_four min_four
set_option linter.unusedVariables false
set_option linter.unusedSimpArgs false
def deliberationkeep_Mod.f (a0 : Int) (a1 : Int) : Option (Int) := if a1 < 1 then (some 0) else (if a1 = 0 then (none) else (if (Int.tmod a0 a1) < 0 then (some (wrap64 ((Int.tmod a0 a1) + a1))) else (some (Int.tmod a0 a1))))
set_option maxHeartbeats 8000000 in
set_option maxRecDepth 100000 in
theorem deliberationkeep_Mod.calls (a0 : Int) (a1 : Int) (r : Int) (w : World) (h : deliberationkeep_Mod.f a0 a1 = some r) :
 Calls Tryd.prog 35 #[.int .i64 a0, .int .i64 a1] w fun e w' => e = .returned (.int .i64 r) ∧ Drawn0 w w' := by
 have H : (if a1 < 1 then (some 0) else (if a1 = 0 then (none) else (if (Int.tmod a0 a1) < 0 then (some (wrap64 ((Int.tmod a0 a1) + a1))) else (some (Int.tmod a0 a1))))) = some r := h; clear h; by_cases c3 : a1 < 1
 · rw [if_pos c3] at H; have c3b0 : decide (a1 < 1) = true := decide_eq_true c3; clear c3; obtain rfl := Option.some.inj H; go_enter Tryd.func35, Tryd.ntmps35; go_wp2; go_ret; exact ⟨by first | rfl | (simp; done) | (simp [*]; done), by repeat (first | exact Drawn0.refl _ | apply Drawn0.step)⟩
 · rw [if_neg c3] at H; have c3b0 : decide (a1 < 1) = false := decide_eq_false c3; clear c3; by_cases c4 : a1 = 0
   · rw [if_pos c4] at H; exact absurd H (by simp)
   · rw [if_neg c4] at H; have c4b0 : (a1 == 0) = false := beq_eq_false_iff_ne.mpr c4; have c4b1 : (a1 != 0) = true := bne_iff_ne.mpr c4; by_cases c5 : (Int.tmod a0 a1) < 0
     · rw [if_pos c5] at H; have c5b0 : decide ((Int.tmod a0 a1) < 0) = true := decide_eq_true c5; clear c5; obtain rfl := Option.some.inj H; go_enter Tryd.func35, Tryd.ntmps35; go_wp2; go_ret; exact ⟨by first | rfl | (simp; done) | (simp [*]; done), by repeat (first | exact Drawn0.refl _ | apply Drawn0.step)⟩
     · rw [if_neg c5] at H; have c5b0 : decide ((Int.tmod a0 a1) < 0) = false := decide_eq_false c5; clear c5; obtain rfl := Option.some.inj H; go_enter Tryd.func35, Tryd.ntmps35; go_wp2; go_ret; exact ⟨by first | rfl | (simp; done) | (simp [*]; done), by repeat (first | exact Drawn0.refl _ | apply Drawn0.step)⟩
end Go.Proofs.YtjmdlmogdbhdhaaDoor.P
namespace Go.Proofs.YtjmdlmogdbhdhaaDoor.P
open Go.RowKit Go.Proofs.YtjmdlmogdbhdhaaDoorW.PrintWords Go.Proofs.YtjmdlmogdbhdhaaDoorW.PrintLast Go.Proofs.YtjmdlmogdbhdhaaDoorW.PrintMore
attribute [local go_sem] max2_int min2_int max_two min_two max_three min_three max_four min_four
set_option linter.unusedVariables false
set_option linter.unusedSimpArgs false
def deliberationkeep_Src_Raw.f (s0_0 : List Int) (s0_1 : Int) : Option (Int × Int) := if s0_1 ≥ (s0_0.length : Int) then (some (0, s0_1)) else (if 0 ≤ (wrap64 ((wrap64 (s0_1 + 1)) - 1)) then (if (wrap64 ((wrap64 (s0_1 + 1)) - 1)) < (s0_0.length : Int) then (some (rd s0_0 (wrap64 ((wrap64 (s0_1 + 1)) - 1)), wrap64 (s0_1 + 1))) else (none)) else (none))
set_option maxHeartbeats 8000000 in
set_option maxRecDepth 100000 in
theorem deliberationkeep_Src_Raw.calls (g : Nat) (s0_0 : List Int) (s0_1 : Int) (r1 : Int) (r2 : Int) (w0 w : World) (hI : IsS64 w0 w g s0_0 s0_1) (hB : Below w0.heap.size w0 w) (h : deliberationkeep_Src_Raw.f s0_0 s0_1 = some (r1, r2)) :
 Calls Tryd.prog 36 #[.pointer (some ⟨g, 0, none⟩)] w fun e w' => e = .returned (.int .i64 r1) ∧ IsS64 w0 w' g s0_0 r2 ∧ Below w0.heap.size w0 w' ∧ KeepBut w w' g none := by
 have HI0 := Aside0.mk hI; have HK := Aside0.mk (KeepBut.refl w g none); have HL := Aside0.mk hB.size; clear hI; have HW0 := Aside0.mk hB.size; have HB := Aside0.mk hB; clear hB; have H : (if s0_1 ≥ (s0_0.length : Int) then (some (0, s0_1)) else (if 0 ≤ (wrap64 ((wrap64 (s0_1 + 1)) - 1)) then (if (wrap64 ((wrap64 (s0_1 + 1)) - 1)) < (s0_0.length : Int) then (some (rd s0_0 (wrap64 ((wrap64 (s0_1 + 1)) - 1)), wrap64 (s0_1 + 1))) else (none)) else (none))) = some (r1, r2) := h; clear h; by_cases c2 : s0_1 ≥ (s0_0.length : Int)
 · rw [if_pos c2] at H; have c2b0 : decide ((s0_0.length : Int) ≤ s0_1) = true := decide_eq_true c2; clear c2; simp only [Option.some.injEq, Prod.mk.injEq] at H; obtain ⟨rfl, rfl⟩ := H; obtain ⟨ASz3_0, cSz3_0, HGz3, hgz3, HSz3_0⟩ := HI0.out; have hcz3_0 := cellS64_0 HGz3; have hcz3_1 := cellS64_1 HGz3; have hfz3_1 := blk_frozen HGz3 1; clear HGz3 hgz3; go_enter Tryd.func36, Tryd.ntmps36; go_wp2; repeat (go_quiet (fail); try go_wp2)
   go_ret; exact ⟨by first | rfl | (simp [errW_none, errW_some] <;> rfl) | (simp [*, errW_none, errW_some] <;> rfl), by repeat (first | (with_reducible first | exact HI0.out | apply IsS64.alloc | apply IsS64.drewN | apply IsS64.drew | apply IsS64.set_1) | exact HI0.out), by repeat (first | (with_reducible first | exact HB.out | apply below_alloc | apply pw_below_drewN | apply below_drew1 | refine below_set ?_ (IsS64.ge HI0.out)) | exact HB.out), by repeat (first | (with_reducible first | exact HK.out | apply KeepBut.set_ | apply keep_drewN | apply keep_drew | apply keep_alloc) | exact HK.out)⟩
 · rw [if_neg c2] at H; have c2b0 : decide ((s0_0.length : Int) ≤ s0_1) = false := decide_eq_false c2; clear c2; obtain ⟨ji4, hji4⟩ : ∃ j_ : Int, (wrap64 ((wrap64 (s0_1 + 1)) - 1)) = j_ := ⟨_, rfl⟩; replace H : (if 0 ≤ (ji4) then (if (ji4) < (s0_0.length : Int) then (some (rd s0_0 (ji4), wrap64 (s0_1 + 1))) else (none)) else (none)) = some (r1, r2) := by first | (rw [hji4] at H; exact H) | (simp only [hji4] at H ⊢; exact H)
   have hji4w : (IntKind.i64.wrap ((wrap64 (s0_1 + 1)) - 1)) = ji4 := (i64_w _).trans hji4; by_cases c5 : 0 ≤ (ji4)
   · rw [if_pos c5] at H; have c5b0 : decide (0 ≤ (ji4)) = true := decide_eq_true c5; clear c5; by_cases c6 : (ji4) < (s0_0.length : Int)
     · rw [if_pos c6] at H; have c6b0 : decide ((ji4) < (s0_0.length : Int)) = true := decide_eq_true c6; clear c6; simp only [Option.some.injEq, Prod.mk.injEq] at H; obtain ⟨rfl, rfl⟩ := H; obtain ⟨ASz7_0, cSz7_0, HGz7, hgz7, HSz7_0⟩ := HI0.out; have hcz7_0 := cellS64_0 HGz7; have hcz7_1 := cellS64_1 HGz7; have hfz7_1 := blk_frozen HGz7 1; clear HGz7 hgz7; have p318 : 0 ≤ ((ji4) : Int) := of_decide_eq_true (by first | (with_reducible assumption) | assumption); have q318 : (ji4) < (s0_0.length : Int) := of_decide_eq_true (by first | (with_reducible assumption) | assumption); obtain ⟨ad318, e318, hx318_0⟩ := Kd.at_int HSz7_0 (ji4) p318 q318; cases e318; have hn318_0 : ad318.block ≠ g := Nat.ne_of_lt (Nat.lt_of_lt_of_le (by have := World.block_lt_of_cell? _ _ hx318_0; first | rwa [add_block] at this | exact this) (IsS64.ge HI0.out)); replace hx318_0 := pw_cell_below HB.out hx318_0; replace hx318_0 := (cell_far (p := ⟨g, 1, none⟩) (by first | (rw [add_block]; exact hn318_0) | (show (Addr.add _ _).block ≠ _; rw [add_block]; exact hn318_0) | exact hn318_0) (.int .i64 (wrap64 (s0_1 + 1)))).trans hx318_0; (try have hy318_0 := fun (n_ : Nat) => (show (((w.drewN n_).setCell ⟨g, 1, none⟩ (.int .i64 (wrap64 (s0_1 + 1))))).cell? _ = some _ from hx318_0)); clear hn318_0; replace p318 := eq_true p318; replace q318 := eq_true q318; go_enter Tryd.func36, Tryd.ntmps36; go_wp2; repeat (go_quiet (fail); try go_wp2)
       go_ret; exact ⟨by first | rfl | (simp [errW_none, errW_some] <;> rfl) | (simp only [← hji4]; first | rfl | (simp [errW_none, errW_some] <;> rfl)) | (simp [*, errW_none, errW_some] <;> rfl), by repeat (first | (with_reducible first | exact HI0.out | apply IsS64.alloc | apply IsS64.drewN | apply IsS64.drew | apply IsS64.set_1) | exact HI0.out), by repeat (first | (with_reducible first | exact HB.out | apply below_alloc | apply pw_below_drewN | apply below_drew1 | refine below_set ?_ (IsS64.ge HI0.out)) | exact HB.out), by repeat (first | (with_reducible first | exact HK.out | apply KeepBut.set_ | apply keep_drewN | apply keep_drew | apply keep_alloc) | exact HK.out)⟩
     · rw [if_neg c6] at H; exact absurd H (by simp)
   · rw [if_neg c5] at H; exact absurd H (by simp)
end Go.Proofs.YtjmdlmogdbhdhaaDoor.P
namespace Go.Proofs.YtjmdlmogdbhdhaaDoor.P
open Go.RowKit Go.Proofs.YtjmdlmogdbhdhaaDoorW.PrintWords Go.Proofs.YtjmdlmogdbhdhaaDoorW.PrintLast Go.Proofs.YtjmdlmogdbhdhaaDoorW.PrintMore
attribute [local go_sem] max2_int min2_int max_two min_two max_three min_three max_four min_four
set_option linter.unusedVariables false
set_option linter.unusedSimpArgs false
def deliberationkeep_Src_N.f (s0_0 : List Int) (s0_1 : Int) (a1 : Int) : Option (Int × Int) := (deliberationkeep_Src_Raw.f s0_0 s0_1).bind fun bt319 => ((deliberationkeep_Mod.f bt319.1 a1).bind fun t321 => (some (t321, bt319.2)))
set_option maxHeartbeats 8000000 in
set_option maxRecDepth 100000 in
theorem deliberationkeep_Src_N.calls (g : Nat) (s0_0 : List Int) (s0_1 : Int) (a1 : Int) (r1 : Int) (r2 : Int) (w0 w : World) (hI : IsS64 w0 w g s0_0 s0_1) (hB : Below w0.heap.size w0 w) (h : deliberationkeep_Src_N.f s0_0 s0_1 a1 = some (r1, r2)) :
 Calls Tryd.prog 16 #[.pointer (some ⟨g, 0, none⟩), .int .i64 a1] w fun e w' => e = .returned (.int .i64 r1) ∧ IsS64 w0 w' g s0_0 r2 ∧ Below w0.heap.size w0 w' ∧ KeepBut w w' g none := by
 have HI0 := Aside0.mk hI; have HK := Aside0.mk (KeepBut.refl w g none); have HL := Aside0.mk hB.size; clear hI; have HW0 := Aside0.mk hB.size; have HB := Aside0.mk hB; clear hB; have H : ((deliberationkeep_Src_Raw.f s0_0 s0_1).bind fun bt319 => ((deliberationkeep_Mod.f bt319.1 a1).bind fun t321 => (some (t321, bt319.2)))) = some (r1, r2) := h; clear h; replace H := Option.bind_eq_some_iff.mp H; obtain ⟨⟨t319, t320⟩, A30, H⟩ := H; replace H : ((deliberationkeep_Mod.f t319 a1).bind fun t321 => (some (t321, t320))) = some (r1, r2) := H; have A3 := Aside0.mk A30; clear A30; replace H := Option.bind_eq_some_iff.mp H; obtain ⟨t321, A40, H⟩ := H; replace H : (some (t321, t320)) = some (r1, r2) := H; have A4 := Aside0.mk A40; clear A40; simp only [Option.some.injEq, Prod.mk.injEq] at H; obtain ⟨rfl, rfl⟩ := H; go_enter Tryd.func16, Tryd.ntmps16; go_wp2_with (first | ((with_reducible refine gate_callee (f := 36) rfl ?_); refine zG (some 6) rfl Tryd.func36 #[.pointer (some ⟨g, 0, none⟩)] ?_; (with_reducible refine (deliberationkeep_Src_Raw.calls g s0_0 s0_1 t319 t320 w0 _ ?side1 ?side2 A3.out).mono ?_); (case side1 => repeat (first | (with_reducible first | exact HI0.out | apply IsS64.alloc | apply IsS64.drewN | apply IsS64.drew | apply IsS64.set_1) | exact HI0.out)); (case side2 => repeat (first | (with_reducible first | exact HB.out | apply below_alloc | apply pw_below_drewN | apply below_drew1 | refine below_set ?_ (IsS64.ge HI0.out)) | exact HB.out)); rintro e w5 ⟨rfl, hi, hb, hk⟩; refine ⟨_, rfl, ?_⟩; replace HK := Aside0.mk (KeepBut.trans (by repeat (first | (with_reducible first | exact HK.out | apply KeepBut.set_ | apply keep_drewN | apply keep_drew | apply keep_alloc) | exact HK.out)) hk (.inl rfl)); replace HB := Aside0.mk (hb); replace HI0 := Aside0.mk (hi); (try clear hb); (try clear hb2); (try clear hk); (try clear hi)) | ((with_reducible refine gate_callee (f := 35) rfl ?_); refine zG (some 8) rfl Tryd.func35 #[.int .i64 t319, .int .i64 a1] ?_; (with_reducible refine (deliberationkeep_Mod.calls t319 a1 t321 _ A4.out).mono ?_); rintro e w' ⟨rfl, ⟨nd, rfl⟩⟩; refine ⟨_, rfl, ?_⟩)); go_ret; exact ⟨by first | rfl | (simp [errW_none, errW_some] <;> rfl) | (simp [*, errW_none, errW_some] <;> rfl), by repeat (first | (with_reducible first | exact HI0.out | apply IsS64.alloc | apply IsS64.drewN | apply IsS64.drew | apply IsS64.set_1) | exact HI0.out), by repeat (first | (with_reducible first | exact HB.out | apply below_alloc | apply pw_below_drewN | apply below_drew1 | refine below_set ?_ (IsS64.ge HI0.out)) | exact HB.out), by repeat (first | (with_reducible first | exact HK.out | apply KeepBut.set_ | apply keep_drewN | apply keep_drew | apply keep_alloc) | exact HK.out)⟩
end Go.Proofs.YtjmdlmogdbhdhaaDoor.P
namespace Go.Proofs.YtjmdlmogdbhdhaaDoor.P
open Go.RowKit Go.Proofs.YtjmdlmogdbhdhaaDoorW.PrintWords Go.Proofs.YtjmdlmogdbhdhaaDoorW.PrintLast Go.Proofs.YtjmdlmogdbhdhaaDoorW.PrintMore
attribute [local go_sem] max2_int min2_int max_two min_two max_three min_three max_four min_four
set_option linter.unusedVariables false
set_option linter.unusedSimpArgs false
def deliberationkeep_Src_Range.f (s0_0 : List Int) (s0_1 : Int) (a1 : Int) (a2 : Int) : Option (Int × Int) := (deliberationkeep_Src_N.f s0_0 s0_1 (wrap64 ((wrap64 (a2 - a1)) + 1))).bind fun bt322 => (some (wrap64 (a1 + bt322.1), bt322.2))
set_option maxHeartbeats 8000000 in
set_option maxRecDepth 100000 in
theorem deliberationkeep_Src_Range.calls (g : Nat) (s0_0 : List Int) (s0_1 : Int) (a1 : Int) (a2 : Int) (r1 : Int) (r2 : Int) (w0 w : World) (hI : IsS64 w0 w g s0_0 s0_1) (hB : Below w0.heap.size w0 w) (h : deliberationkeep_Src_Range.f s0_0 s0_1 a1 a2 = some (r1, r2)) :
 Calls Tryd.prog 13 #[.pointer (some ⟨g, 0, none⟩), .int .i64 a1, .int .i64 a2] w fun e w' => e = .returned (.int .i64 r1) ∧ IsS64 w0 w' g s0_0 r2 ∧ Below w0.heap.size w0 w' ∧ KeepBut w w' g none := by
 have HI0 := Aside0.mk hI; have HK := Aside0.mk (KeepBut.refl w g none); have HL := Aside0.mk hB.size; clear hI; have HW0 := Aside0.mk hB.size; have HB := Aside0.mk hB; clear hB; have H : ((deliberationkeep_Src_N.f s0_0 s0_1 (wrap64 ((wrap64 (a2 - a1)) + 1))).bind fun bt322 => (some (wrap64 (a1 + bt322.1), bt322.2))) = some (r1, r2) := h; clear h; replace H := Option.bind_eq_some_iff.mp H; obtain ⟨⟨t322, t323⟩, A40, H⟩ := H; replace H : (some (wrap64 (a1 + t322), t323)) = some (r1, r2) := H; have A4 := Aside0.mk A40; clear A40; simp only [Option.some.injEq, Prod.mk.injEq] at H; obtain ⟨rfl, rfl⟩ := H; go_enter Tryd.func13, Tryd.ntmps13; go_wp2_with (first | ((with_reducible refine gate_callee (f := 16) rfl ?_); refine zG (some 13) rfl Tryd.func16 #[.pointer (some ⟨g, 0, none⟩), .int .i64 (wrap64 ((wrap64 (a2 - a1)) + 1))] ?_; (with_reducible refine (deliberationkeep_Src_N.calls g s0_0 s0_1 (wrap64 ((wrap64 (a2 - a1)) + 1)) t322 t323 w0 _ ?side1 ?side2 A4.out).mono ?_); (case side1 => repeat (first | (with_reducible first | exact HI0.out | apply IsS64.alloc | apply IsS64.drewN | apply IsS64.drew | apply IsS64.set_1) | exact HI0.out)); (case side2 => repeat (first | (with_reducible first | exact HB.out | apply below_alloc | apply pw_below_drewN | apply below_drew1 | refine below_set ?_ (IsS64.ge HI0.out)) | exact HB.out)); rintro e w5 ⟨rfl, hi, hb, hk⟩; refine ⟨_, rfl, ?_⟩; replace HK := Aside0.mk (KeepBut.trans (by repeat (first | (with_reducible first | exact HK.out | apply KeepBut.set_ | apply keep_drewN | apply keep_drew | apply keep_alloc) | exact HK.out)) hk (.inl rfl)); replace HB := Aside0.mk (hb); replace HI0 := Aside0.mk (hi); (try clear hb); (try clear hb2); (try clear hk); (try clear hi))); go_ret; exact ⟨by first | rfl | (simp [errW_none, errW_some] <;> rfl) | (simp [*, errW_none, errW_some] <;> rfl), by repeat (first | (with_reducible first | exact HI0.out | apply IsS64.alloc | apply IsS64.drewN | apply IsS64.drew | apply IsS64.set_1) | exact HI0.out), by repeat (first | (with_reducible first | exact HB.out | apply below_alloc | apply pw_below_drewN | apply below_drew1 | refine below_set ?_ (IsS64.ge HI0.out)) | exact HB.out), by repeat (first | (with_reducible first | exact HK.out | apply KeepBut.set_ | apply keep_drewN | apply keep_drew | apply keep_alloc) | exact HK.out)⟩
end Go.Proofs.YtjmdlmogdbhdhaaDoor.P
namespace Go.Proofs.YtjmdlmogdbhdhaaDoor.P
open Go.RowKit Go.Proofs.YtjmdlmogdbhdhaaDoorW.PrintWords Go.Proofs.YtjmdlmogdbhdhaaDoorW.PrintLast Go.Proofs.YtjmdlmogdbhdhaaDoorW.PrintMore
attribute [local go_sem] max2_int min2_int max_two min_two max_three min_three max_four min_four
set_option linter.unusedVariables false
set_option linter.unusedSimpArgs false
mutual
def deliberationnet_Graph.l0 : Nat → Int → Int → List Int → Int → Int → List (S42) → Option (Int × (List (S42)) × Int)
 | 0, _, _, _, _, _, _ => none
 | k + 1, x6, x7, x1000, x1001, x328000, x328001 => if x7 < x328000 then (deliberationnet_Graph.l1 k x6 x7 0 x1000 x1001 x328000 x328001) else (some (x328000, x328001, x1001))
def deliberationnet_Graph.l1 : Nat → Int → Int → Int → List Int → Int → Int → List (S42) → Option (Int × (List (S42)) × Int)
 | 0, _, _, _, _, _, _, _ => none
 | k + 1, x6, x7, x8, x1000, x1001, x328000, x328001 => if x8 < x328000 then (if x7 = x8 then ((deliberationkeep_Src_N.f x1000 x1001 9).bind fun bt330 => (if bt330.1 = 1 then (if x328001.length < 8796093022208 then (deliberationnet_Graph.l1 k x6 x7 (wrap64 (x8 + 1)) x1000 bt330.2 x328000 (x328001 ++ [(⟨x7, x8⟩ : S42)])) else (none)) else (deliberationnet_Graph.l1 k x6 x7 (wrap64 (x8 + 1)) x1000 bt330.2 x328000 x328001))) else ((deliberationkeep_Src_N.f x1000 x1001 x6).bind fun bt335 => (if bt335.1 = 1 then (if x328001.length < 8796093022208 then (deliberationnet_Graph.l1 k x6 x7 (wrap64 (x8 + 1)) x1000 bt335.2 x328000 (x328001 ++ [(⟨x7, x8⟩ : S42)])) else (none)) else (deliberationnet_Graph.l1 k x6 x7 (wrap64 (x8 + 1)) x1000 bt335.2 x328000 x328001)))) else (deliberationnet_Graph.l0 k x6 (wrap64 (x7 + 1)) x1000 x1001 x328000 x328001)
end
def deliberationnet_Graph.f (k : Nat) (s0_0 : List Int) (s0_1 : Int) (a1 : Int) : Option (Int × (List (S42)) × Int) := (deliberationkeep_Src_Range.f s0_0 s0_1 1 a1).bind fun bt325 => ((deliberationkeep_Src_Range.f s0_0 bt325.2 2 5).bind fun bt328 => (deliberationnet_Graph.l0 k bt328.1 0 s0_0 bt328.2 bt325.1 ([] : List (S42))))
set_option maxHeartbeats 8000000 in
set_option maxRecDepth 100000 in
theorem deliberationnet_Graph.calls (k : Nat) (g : Nat) (s0_0 : List Int) (s0_1 : Int) (a1 : Int) (r1 : Int) (r2 : List (S42)) (r3 : Int) (w0 w : World) (hI : IsS64 w0 w g s0_0 s0_1) (hB : Below w0.heap.size w0 w) (h : deliberationnet_Graph.f k s0_0 s0_1 a1 = some (r1, r2, r3)) :
 Calls Tryd.prog 12 #[.pointer (some ⟨g, 0, none⟩), .int .i64 a1] w fun e w' => ∃ v1_ : Value, e = .returned (.agg #[.int .i64 r1, v1_]) ∧ Kd.R k42 42 w' w.heap.size (fun _ => True) v1_ r2 ∧ IsS64 w0 w' g s0_0 r3 ∧ Below w0.heap.size w0 w' ∧ KeepBut w w' g none := by
 have hu24 := Tryd.underlying24; have hu42 := Tryd.underlying42; have HI0 := Aside0.mk hI; have HK := Aside0.mk (KeepBut.refl w g none); have HL := Aside0.mk hB.size; clear hI; have HW0 := Aside0.mk hB.size; have HB := Aside0.mk hB; clear hB; have H : ((deliberationkeep_Src_Range.f s0_0 s0_1 1 a1).bind fun bt325 => ((deliberationkeep_Src_Range.f s0_0 bt325.2 2 5).bind fun bt328 => (deliberationnet_Graph.l0 k bt328.1 0 s0_0 bt328.2 bt325.1 ([] : List (S42))))) = some (r1, r2, r3) := h; clear h; replace H := Option.bind_eq_some_iff.mp H; obtain ⟨⟨t325, t326⟩, A30, H⟩ := H; replace H : ((deliberationkeep_Src_Range.f s0_0 t326 2 5).bind fun bt328 => (deliberationnet_Graph.l0 k bt328.1 0 s0_0 bt328.2 t325 ([] : List (S42)))) = some (r1, r2, r3) := H; have A3 := Aside0.mk A30; clear A30; replace H := Option.bind_eq_some_iff.mp H; obtain ⟨⟨t328, t329⟩, A40, H⟩ := H; replace H : (deliberationnet_Graph.l0 k t328 0 s0_0 t329 t325 ([] : List (S42))) = some (r1, r2, r3) := H; have A4 := Aside0.mk A40; clear A40; have H' := Aside0.mk H; clear H; go_enter Tryd.func12, Tryd.ntmps12; go_wp2_with (first | ((with_reducible refine gate_dst (N := 4) rfl ?_); refine zX (N := 4) (cs := #[.int .i64 0, .slice none 0 0]) (t := 24) ?_; intro gb324 hg w5 hbox hb; have BK324 := Aside0.mk (hbox); have GW324 := Aside0.mk ((by rw [hg]; exact (keep_size (w := w) (g := g) (row := none) (by repeat (first | (with_reducible first | exact HK.out | apply KeepBut.set_ | apply keep_drewN | apply keep_drew | apply keep_alloc) | exact HK.out))) : w.heap.size ≤ gb324)); have GE324 := Aside0.mk ((Nat.le_trans HW0.out (by rw [hg]; exact (keep_size (w := w) (g := g) (row := none) (by repeat (first | (with_reducible first | exact HK.out | apply KeepBut.set_ | apply keep_drewN | apply keep_drew | apply keep_alloc) | exact HK.out))) : w.heap.size ≤ gb324) : w0.heap.size ≤ gb324)); have NB0_324 := Aside0.mk ((by rw [hg]; exact Nat.ne_of_lt (IsS64.lt (show IsS64 w0 _ g s0_0 s0_1 from by repeat (first | (with_reducible first | exact HI0.out | apply IsS64.alloc | apply IsS64.drewN | apply IsS64.drew | apply IsS64.set_1) | exact HI0.out))) : g ≠ gb324)); have NB324_0 := Aside0.mk ((by rw [hg]; exact Nat.ne_of_gt (IsS64.lt (show IsS64 w0 _ g s0_0 s0_1 from by repeat (first | (with_reducible first | exact HI0.out | apply IsS64.alloc | apply IsS64.drewN | apply IsS64.drew | apply IsS64.set_1) | exact HI0.out))) : gb324 ≠ g)); replace HK := Aside0.mk (KeepBut.trans (by repeat (first | (with_reducible first | exact HK.out | apply KeepBut.set_ | apply keep_drewN | apply keep_drew | apply keep_alloc) | exact HK.out)) (KeepBut.of_below hb g none) (.inl rfl)); replace HB := Aside0.mk (below_step (by repeat (first | (with_reducible first | exact HB.out | apply below_alloc | apply pw_below_drewN | apply below_drew1 | refine below_set ?_ (IsS64.ge HI0.out)) | exact HB.out)) hb); replace HI0 := Aside0.mk (IsS64.below (by repeat (first | (with_reducible first | exact HI0.out | apply IsS64.alloc | apply IsS64.drewN | apply IsS64.drew | apply IsS64.set_1) | exact HI0.out)) hb); clear hb hbox hg) | ((with_reducible refine gate_callee (f := 13) rfl ?_); refine zG (some 12) rfl Tryd.func13 #[.pointer (some ⟨g, 0, none⟩), .int .i64 1, .int .i64 a1] ?_; (with_reducible refine (deliberationkeep_Src_Range.calls g s0_0 s0_1 1 a1 t325 t326 w0 _ ?side1 ?side2 A3.out).mono ?_); (case side1 => repeat (first | (with_reducible first | exact HI0.out | apply IsS64.alloc | apply IsS64.drewN | apply IsS64.drew | apply IsS64.set_1 | refine IsS64.far ?_ NB0_324.out _) | exact HI0.out)); (case side2 => repeat (first | (with_reducible first | exact HB.out | apply below_alloc | apply pw_below_drewN | apply below_drew1 | refine below_set ?_ (IsS64.ge HI0.out) | refine below_set ?_ GE324.out) | exact HB.out)); rintro e w6 ⟨rfl, hi, hb, hk⟩; refine ⟨_, rfl, ?_⟩; replace BK324 := Aside0.mk (KeepBut.blk hk (g' := gb324) (o := .cells #[.int .i64 0, .slice none 0 0] 24 (0, 0)) (zK BK324) NB324_0.out (by simp)); replace HK := Aside0.mk (KeepBut.trans (by repeat (first | (with_reducible first | exact HK.out | apply KeepBut.set_ | apply keep_drewN | apply keep_drew | apply keep_alloc | refine keep_far ?_ GW324.out _) | exact HK.out)) hk (.inl rfl)); replace HB := Aside0.mk (hb); replace HI0 := Aside0.mk (hi); (try clear hb); (try clear hb2); (try clear hk); (try clear hi)) | ((with_reducible refine gate_dst (N := 5) rfl ?_); refine zX (N := 5) (cs := #[.int .i64 0, .slice none 0 0]) (t := 24) ?_; intro gb327 hg w7 hbox hb; have BK327 := Aside0.mk (hbox); have GW327 := Aside0.mk ((by rw [hg]; exact (keep_size (w := w) (g := g) (row := none) (by repeat (first | (with_reducible first | exact HK.out | apply KeepBut.set_ | apply keep_drewN | apply keep_drew | apply keep_alloc | refine keep_far ?_ GW324.out _) | exact HK.out))) : w.heap.size ≤ gb327)); have GE327 := Aside0.mk ((Nat.le_trans HW0.out (by rw [hg]; exact (keep_size (w := w) (g := g) (row := none) (by repeat (first | (with_reducible first | exact HK.out | apply KeepBut.set_ | apply keep_drewN | apply keep_drew | apply keep_alloc | refine keep_far ?_ GW324.out _) | exact HK.out))) : w.heap.size ≤ gb327) : w0.heap.size ≤ gb327)); have NB324_327 := Aside0.mk (zNl hg BK324); have NB327_324 := Aside0.mk (zNr hg BK324); have NB0_327 := Aside0.mk ((by rw [hg]; exact Nat.ne_of_lt (IsS64.lt (show IsS64 w0 _ g s0_0 t326 from by repeat (first | (with_reducible first | exact HI0.out | apply IsS64.alloc | apply IsS64.drewN | apply IsS64.drew | apply IsS64.set_1 | refine IsS64.far ?_ NB0_324.out _) | exact HI0.out))) : g ≠ gb327)); have NB327_0 := Aside0.mk ((by rw [hg]; exact Nat.ne_of_gt (IsS64.lt (show IsS64 w0 _ g s0_0 t326 from by repeat (first | (with_reducible first | exact HI0.out | apply IsS64.alloc | apply IsS64.drewN | apply IsS64.drew | apply IsS64.set_1 | refine IsS64.far ?_ NB0_324.out _) | exact HI0.out))) : gb327 ≠ g)); replace BK324 := Aside0.mk (zKb BK324 hb); replace HK := Aside0.mk (KeepBut.trans (by repeat (first | (with_reducible first | exact HK.out | apply KeepBut.set_ | apply keep_drewN | apply keep_drew | apply keep_alloc | refine keep_far ?_ GW324.out _) | exact HK.out)) (KeepBut.of_below hb g none) (.inl rfl)); replace HB := Aside0.mk (below_step (by repeat (first | (with_reducible first | exact HB.out | apply below_alloc | apply pw_below_drewN | apply below_drew1 | refine below_set ?_ (IsS64.ge HI0.out) | refine below_set ?_ GE324.out) | exact HB.out)) hb); replace HI0 := Aside0.mk (IsS64.below (by repeat (first | (with_reducible first | exact HI0.out | apply IsS64.alloc | apply IsS64.drewN | apply IsS64.drew | apply IsS64.set_1 | refine IsS64.far ?_ NB0_324.out _) | exact HI0.out)) hb); clear hb hbox hg; have hnb8 := NB327_324.out; have hnc8 := NB324_327.out; have hnb9 := NB327_0.out; have hnc9 := NB0_327.out; have hcz10_0 := zc BK327 0; have hcz10_1 := zc BK327 1; have hfz10_0 := blk_frozen BK327.out 0; have hfz10_1 := blk_frozen BK327.out 1) | ((with_reducible refine gate_callee (f := 13) rfl ?_); refine zG (some 15) rfl Tryd.func13 #[.pointer (some ⟨g, 0, none⟩), .int .i64 2, .int .i64 5] ?_; (with_reducible refine (deliberationkeep_Src_Range.calls g s0_0 t326 2 5 t328 t329 w0 _ ?side1 ?side2 A4.out).mono ?_); (case side1 => repeat (first | (with_reducible first | exact HI0.out | apply IsS64.alloc | apply IsS64.drewN | apply IsS64.drew | apply IsS64.set_1 | refine IsS64.far ?_ NB0_324.out _ | refine IsS64.far ?_ NB0_327.out _) | exact HI0.out)); (case side2 => repeat (first | (with_reducible first | exact HB.out | apply below_alloc | apply pw_below_drewN | apply below_drew1 | refine below_set ?_ (IsS64.ge HI0.out) | refine below_set ?_ GE324.out | refine below_set ?_ GE327.out) | exact HB.out)); rintro e w11 ⟨rfl, hi, hb, hk⟩; refine ⟨_, rfl, ?_⟩; replace BK324 := Aside0.mk (KeepBut.blk hk (g' := gb324) (o := .cells #[.int .i64 0, .slice none 0 0] 24 (0, 0)) (by refine zk ?_; refine blk_far ?_ NB324_327.out _; refine zk ?_; refine blk_far ?_ NB324_327.out _; refine zk ?_; exact BK324.out) NB324_0.out (by simp)); replace BK327 := Aside0.mk (KeepBut.blk hk (g' := gb327) (o := .cells #[.int .i64 t325, .slice none 0 0] 24 (0, 0)) (by refine zk ?_; refine blk_put (cs := #[.int .i64 t325, .slice none 0 0]) ?_ 1 _ rfl; refine zk ?_; refine blk_put (cs := #[.int .i64 0, .slice none 0 0]) ?_ 0 _ rfl; refine zk ?_; exact BK327.out) NB327_0.out (by simp)); replace HK := Aside0.mk (KeepBut.trans (by repeat (first | (with_reducible first | exact HK.out | apply KeepBut.set_ | apply keep_drewN | apply keep_drew | apply keep_alloc | refine keep_far ?_ GW324.out _ | refine keep_far ?_ GW327.out _) | exact HK.out)) hk (.inl rfl)); replace HB := Aside0.mk (hb); replace HI0 := Aside0.mk (hi); (try clear hb); (try clear hb2); (try clear hk); (try clear hi))); go_loopg [7] k (fun kq v7 w' => ∃ (x7_1 : Int) (x1001_1 : Int) (x328001_1 : List (S42)) (u328001 : Value), v7 = .int .i64 x7_1 ∧ Aside0 (deliberationnet_Graph.l0 kq t328 x7_1 s0_0 x1001_1 t325 x328001_1 = some (r1, r2, r3)) ∧ Aside0 (kq ≤ k) ∧ Aside0 (Kd.R k42 42 w' w.heap.size (fun _ => True) u328001 x328001_1) ∧ Aside0 (w'.heap[gb324]? = some (.cells #[.int .i64 0, (.slice none 0 0)] 24 (0, 0))) ∧ Aside0 (w'.heap[gb327]? = some (.cells #[.int .i64 t325, u328001] 24 (0, 0))) ∧ Aside0 (IsS64 w0 w' g s0_0 x1001_1) ∧ Aside0 (KeepBut w w' g none) ∧ Aside0 (Below w0.heap.size w0 w'))
 case atStart => exact ⟨(0), (t329), (([] : List (S42))), (.slice none 0 0), zv, H', ⟨Nat.le_refl _⟩, ⟨by first | exact Kd.R_nil _ _ _ _ _ | exact Kd.N_nil _ _ _ _ _ | exact Kd.V_nil _ _ _ _ _ | exact Kd.Q_nil _ _ _ _ _ | exact Kd.S_nil _ _ _ _ _ | exact Kd.R_nil _ _ _ 0 _⟩, ⟨zK BK324⟩, ⟨zK BK327⟩, ⟨by repeat (first | (with_reducible first | exact HI0.out | apply IsS64.alloc | apply IsS64.drewN | apply IsS64.drew | apply IsS64.set_1 | refine IsS64.far ?_ NB0_324.out _ | refine IsS64.far ?_ NB0_327.out _) | exact HI0.out)⟩, ⟨by repeat (first | (with_reducible first | exact HK.out | apply KeepBut.set_ | apply keep_drewN | apply keep_drew | apply keep_alloc | refine keep_far ?_ GW324.out _ | refine keep_far ?_ GW327.out _) | exact HK.out)⟩, ⟨by repeat (first | (with_reducible first | exact HB.out | apply below_alloc | apply pw_below_drewN | apply below_drew1 | refine below_set ?_ (IsS64.ge HI0.out) | refine below_set ?_ GE324.out | refine below_set ?_ GE327.out) | exact HB.out)⟩⟩
 case round =>
  clear H'; try clear c1
  try clear p2
  try clear c8
  try clear c9
  try clear hcz10_0
  try clear hcz10_1
  try clear hfz10_0
  try clear hfz10_1
  obtain ⟨x7_1, x1001_1, x328001_1, u328001, rfl, HA, HK1, HO_328001, BK324, BK327, HI0, HK, HB⟩ := hrel; cases gk with
  | zero => exact absurd HA.out (by simp [deliberationnet_Graph.l0])
  | succ k1 =>
   have H := HA.out; clear HA; simp only [deliberationnet_Graph.l0] at H; by_cases c12 : x7_1 < t325
   · rw [if_pos c12] at H; have c12b0 : decide (x7_1 < t325) = true := decide_eq_true c12; clear c12; have H' := Aside0.mk H; clear H; have hnb13 := NB327_324.out; have hnc13 := NB324_327.out; have hnb14 := NB327_0.out; have hnc14 := NB0_327.out; have hcz15_0 := zc BK327 0; have hcz15_1 := zc BK327 1; have hfz15_0 := blk_frozen BK327.out 0; have hfz15_1 := blk_frozen BK327.out 1; go_wp2; go_loopg [8] k1 (fun kq v8 w' => ∃ (x8_2 : Int) (x1001_2 : Int) (x328001_2 : List (S42)) (u328001 : Value), v8 = .int .i64 x8_2 ∧ Aside0 (deliberationnet_Graph.l1 kq t328 x7_1 x8_2 s0_0 x1001_2 t325 x328001_2 = some (r1, r2, r3)) ∧ Aside0 (kq ≤ k1) ∧ Aside0 (Kd.R k42 42 w' w.heap.size (fun _ => True) u328001 x328001_2) ∧ Aside0 (w'.heap[gb324]? = some (.cells #[.int .i64 0, (.slice none 0 0)] 24 (0, 0))) ∧ Aside0 (w'.heap[gb327]? = some (.cells #[.int .i64 t325, u328001] 24 (0, 0))) ∧ Aside0 (IsS64 w0 w' g s0_0 x1001_2) ∧ Aside0 (KeepBut w w' g none) ∧ Aside0 (Below w0.heap.size w0 w'))
     case atStart => exact ⟨(0), (x1001_1), (x328001_1), (u328001), zv, H', ⟨Nat.le_refl _⟩, ⟨zR HO_328001⟩, ⟨zK BK324⟩, ⟨zK BK327⟩, ⟨by repeat (first | (with_reducible first | exact HI0.out | apply IsS64.alloc | apply IsS64.drewN | apply IsS64.drew | apply IsS64.set_1 | refine IsS64.far ?_ NB0_324.out _ | refine IsS64.far ?_ NB0_327.out _) | exact HI0.out)⟩, ⟨by repeat (first | (with_reducible first | exact HK.out | apply KeepBut.set_ | apply keep_drewN | apply keep_drew | apply keep_alloc | refine keep_far ?_ GW324.out _ | refine keep_far ?_ GW327.out _) | exact HK.out)⟩, ⟨by repeat (first | (with_reducible first | exact HB.out | apply below_alloc | apply pw_below_drewN | apply below_drew1 | refine below_set ?_ (IsS64.ge HI0.out) | refine below_set ?_ GE324.out | refine below_set ?_ GE327.out) | exact HB.out)⟩⟩
     case round =>
      clear H'; try clear c1
      try clear p2
      try clear c8
      try clear c9
      try clear c12
      try clear c12b0
      try clear c13
      try clear c14
      try clear hcz10_0
      try clear hcz10_1
      try clear hcz15_0
      try clear hcz15_1
      try clear hfz10_0
      try clear hfz10_1
      try clear hfz15_0
      try clear hfz15_1
      try clear p2
      obtain ⟨x8_2, x1001_2, x328001_2, u328001, rfl, HA, HK2, HO_328001, BK324, BK327, HI0, HK, HB⟩ := hrel; cases gk with
      | zero => exact absurd HA.out (by simp [deliberationnet_Graph.l1])
      | succ k2 =>
       have H := HA.out; clear HA; simp only [deliberationnet_Graph.l1] at H; by_cases c16 : x8_2 < t325
       · rw [if_pos c16] at H; have c16b0 : decide (x8_2 < t325) = true := decide_eq_true c16; clear c16; by_cases c17 : x7_1 = x8_2
         · rw [if_pos c17] at H; have c17b0 : (x7_1 == x8_2) = true := beq_iff_eq.mpr c17; have c17b1 : (x7_1 != x8_2) = false := bne_eq_false_iff_eq.mpr c17; clear c17; replace H := Option.bind_eq_some_iff.mp H; obtain ⟨⟨t330, t331⟩, A180, H⟩ := H; replace H : (if t330 = 1 then (if x328001_2.length < 8796093022208 then (deliberationnet_Graph.l1 k2 t328 x7_1 (wrap64 (x8_2 + 1)) s0_0 t331 t325 (x328001_2 ++ [(⟨x7_1, x8_2⟩ : S42)])) else (none)) else (deliberationnet_Graph.l1 k2 t328 x7_1 (wrap64 (x8_2 + 1)) s0_0 t331 t325 x328001_2)) = some (r1, r2, r3) := H; have A18 := Aside0.mk A180; clear A180; by_cases c19 : t330 = 1
           · rw [if_pos c19] at H; have c19b0 : (t330 == 1) = true := beq_iff_eq.mpr c19; have c19b1 : (t330 != 1) = false := bne_eq_false_iff_eq.mpr c19; clear c19; by_cases c20 : x328001_2.length < 8796093022208
             · rw [if_pos c20] at H; have LMc20 := Aside0.mk c20; clear c20; obtain ⟨y332, hy332⟩ : ∃ y_ : List (S42), y_ = (x328001_2 ++ [(⟨x7_1, x8_2⟩ : S42)]) := ⟨_, rfl⟩; replace H : (deliberationnet_Graph.l1 k2 t328 x7_1 (wrap64 (x8_2 + 1)) s0_0 t331 t325 y332) = some (r1, r2, r3) := by first | (rw [hy332]; with_reducible exact H) | (have H2_ := (Option.bind_some _ _).symm.trans H; rw [hy332]; with_reducible exact H2_) | (have H2_ := (Option.bind_some _ _).symm.trans H; with_reducible exact H2_) | with_reducible exact H | (rw [hy332]; exact H) | exact H
               have Ny332 := Aside0.mk hy332; clear hy332; have H' := Aside0.mk H; clear H; have hnb21 := NB327_324.out; have hnc21 := NB324_327.out; have hnb22 := NB327_0.out; have hnc22 := NB0_327.out; have hcz23_0 := zc BK327 0; have hcz23_1 := zc BK327 1; have hfz23_0 := blk_frozen BK327.out 0; have hfz23_1 := blk_frozen BK327.out 1; go_wp2_with (first | ((with_reducible refine gate_callee (f := 16) rfl ?_); refine zG (some 34) rfl Tryd.func16 #[.pointer (some ⟨g, 0, none⟩), .int .i64 9] ?_; (with_reducible refine (deliberationkeep_Src_N.calls g s0_0 x1001_2 9 t330 t331 w0 _ ?side1 ?side2 A18.out).mono ?_); (case side1 => repeat (first | (with_reducible first | exact HI0.out | apply IsS64.alloc | apply IsS64.drewN | apply IsS64.drew | apply IsS64.set_1 | refine IsS64.far ?_ NB0_324.out _ | refine IsS64.far ?_ NB0_327.out _) | exact HI0.out)); (case side2 => repeat (first | (with_reducible first | exact HB.out | apply below_alloc | apply pw_below_drewN | apply below_drew1 | refine below_set ?_ (IsS64.ge HI0.out) | refine below_set ?_ GE324.out | refine below_set ?_ GE327.out) | exact HB.out)); rintro e w24 ⟨rfl, hi, hb, hk⟩; refine ⟨_, rfl, ?_⟩; replace HO_328001 := Aside0.mk (Kd.R_mono (Kd.R_keep (IsS64.apart (show IsS64 w0 _ g s0_0 x1001_2 from by repeat (first | (with_reducible first | exact HI0.out | apply IsS64.alloc | apply IsS64.drewN | apply IsS64.drew | apply IsS64.set_1 | refine IsS64.far ?_ NB0_324.out _ | refine IsS64.far ?_ NB0_327.out _) | exact HI0.out)) (zR HO_328001) (by decide)) hk (fun _ h => h.2)) (fun _ h => h.1)); replace BK324 := Aside0.mk (KeepBut.blk hk (g' := gb324) (o := .cells #[.int .i64 0, .slice none 0 0] 24 (0, 0)) (zK BK324) NB324_0.out (by simp)); replace BK327 := Aside0.mk (KeepBut.blk hk (g' := gb327) (o := .cells #[.int .i64 t325, u328001] 24 (0, 0)) (zK BK327) NB327_0.out (by simp)); replace HK := Aside0.mk (KeepBut.trans (by repeat (first | (with_reducible first | exact HK.out | apply KeepBut.set_ | apply keep_drewN | apply keep_drew | apply keep_alloc | refine keep_far ?_ GW324.out _ | refine keep_far ?_ GW327.out _) | exact HK.out)) hk (.inl rfl)); replace HB := Aside0.mk (hb); replace HI0 := Aside0.mk (hi); (try clear hb); (try clear hb2); (try clear hk); (try clear hi); have hcz25_0 := zc BK327 0; have hcz25_1 := zc BK327 1; have hfz25_0 := blk_frozen BK327.out 0; have hfz25_1 := blk_frozen BK327.out 1) | ((with_reducible refine gate_builtin (b := .append) (xs := #[.tmp 37, .tmp 41]) rfl ?_); at_builtin; refine Kd.R_append k42 w.heap.size rfl (.tmp 37) (.tmp 41) 22 42 (.agg #[(.int .i64 0), (.int .i64 0)]) 16 rfl Tryd.underlying22 info42 rfl (by decide) (by omega) u328001 x328001_2 (⟨x7_1, x8_2⟩ : S42) [.int .i64 x7_1, .int .i64 x8_2] (fun _ => True) (fun _ => False) rfl rfl ?aP (fun _ hk => hk.elim) ?aF ?aO (Below.refl _ _) ?aS ?aL ?_; (case aP => exact k42_mkM _ _ _ (⟨x7_1, x8_2⟩ : S42)); (case aF => exact (fun _ _ => trivial)); (case aO => exact (zR HO_328001)); (case aS => exact (keep_size (w := w) (g := g) (row := none) (by repeat (first | (with_reducible first | exact HK.out | apply KeepBut.set_ | apply keep_drewN | apply keep_drew | apply keep_alloc | refine keep_far ?_ GW324.out _ | refine keep_far ?_ GW327.out _) | exact HK.out)))); (case aL => have := LMc20.out; omega); intro v333 w26 ho hb hg hat; rw [← Ny332.out] at ho; have HO334 := Aside0.mk (ho); replace BK324 := Aside0.mk (blk_grown (g := gb324) (o := .cells #[.int .i64 0, .slice none 0 0] 24 (0, 0)) (zK BK324) hg (Kd.R_ne HO_328001.out BK324.out (by decide))); replace BK327 := Aside0.mk (blk_grown (g := gb327) (o := .cells #[.int .i64 t325, u328001] 24 (0, 0)) (zK BK327) hg (Kd.R_ne HO_328001.out BK327.out (by decide))); replace HB := Aside0.mk (below_weaken (by repeat (first | (with_reducible first | exact HB.out | apply below_alloc | apply pw_below_drewN | apply below_drew1 | refine below_set ?_ (IsS64.ge HI0.out) | refine below_set ?_ GE324.out | refine below_set ?_ GE327.out) | exact HB.out)) HL.out hb); replace HI0 := Aside0.mk (IsS64.grown (by repeat (first | (with_reducible first | exact HI0.out | apply IsS64.alloc | apply IsS64.drewN | apply IsS64.drew | apply IsS64.set_1 | refine IsS64.far ?_ NB0_324.out _ | refine IsS64.far ?_ NB0_327.out _) | exact HI0.out)) hg (IsS64.own_ne HI0.out HO_328001.out (by decide))); replace HK := Aside0.mk (KeepBut.trans (by repeat (first | (with_reducible first | exact HK.out | apply KeepBut.set_ | apply keep_drewN | apply keep_drew | apply keep_alloc | refine keep_far ?_ GW324.out _ | refine keep_far ?_ GW327.out _) | exact HK.out)) (KeepBut.of_grown hg g) (Kd.R_base2 HO_328001.out)); clear HO_328001; clear ho hb hg hat; obtain ⟨Ao27, co27, eo27⟩ := Kd.R_slice HO334.out; subst eo27; have hcz28_0 := zc BK327 0; have hcz28_1 := zc BK327 1; have hfz28_0 := blk_frozen BK327.out 0; have hfz28_1 := blk_frozen BK327.out 1)); go_roundg k2
               case measure => have := HK1.out; have := HK2.out; omega
               case rel => exact ⟨(wrap64 (x8_2 + 1)), (t331), (y332), (.slice Ao27 y332.length co27), zv, H', ⟨by have := HK1.out; have := HK2.out; omega⟩, ⟨by refine zkR ?_; exact Kd.R_mono (Kd.R_far (p := ⟨gb327, 1, none⟩) (Kd.R_types HO334.out BK327.out (by decide)) (fun _ hk => hk.2) (.slice Ao27 y332.length co27)) (fun _ hk => trivial)⟩, ⟨by refine zk ?_; refine blk_far ?_ NB324_327.out _; refine zk ?_; exact BK324.out⟩, ⟨by refine zk ?_; refine blk_put (cs := #[.int .i64 t325, u328001]) ?_ 1 _ rfl; refine zk ?_; exact BK327.out⟩, ⟨by repeat (first | (with_reducible first | exact HI0.out | apply IsS64.alloc | apply IsS64.drewN | apply IsS64.drew | apply IsS64.set_1 | refine IsS64.far ?_ NB0_324.out _ | refine IsS64.far ?_ NB0_327.out _) | exact HI0.out)⟩, ⟨by repeat (first | (with_reducible first | exact HK.out | apply KeepBut.set_ | apply keep_drewN | apply keep_drew | apply keep_alloc | refine keep_far ?_ GW324.out _ | refine keep_far ?_ GW327.out _) | exact HK.out)⟩, ⟨by repeat (first | (with_reducible first | exact HB.out | apply below_alloc | apply pw_below_drewN | apply below_drew1 | refine below_set ?_ (IsS64.ge HI0.out) | refine below_set ?_ GE324.out | refine below_set ?_ GE327.out) | exact HB.out)⟩⟩
             · rw [if_neg c20] at H; exact absurd H (by simp)
           · rw [if_neg c19] at H; have c19b0 : (t330 == 1) = false := beq_eq_false_iff_ne.mpr c19; have c19b1 : (t330 != 1) = true := bne_iff_ne.mpr c19; have H' := Aside0.mk H; clear H; have hnb29 := NB327_324.out; have hnc29 := NB324_327.out; have hnb30 := NB327_0.out; have hnc30 := NB0_327.out; have hcz31_0 := zc BK327 0; have hcz31_1 := zc BK327 1; have hfz31_0 := blk_frozen BK327.out 0; have hfz31_1 := blk_frozen BK327.out 1; go_wp2_with (first | ((with_reducible refine gate_callee (f := 16) rfl ?_); refine zG (some 34) rfl Tryd.func16 #[.pointer (some ⟨g, 0, none⟩), .int .i64 9] ?_; (with_reducible refine (deliberationkeep_Src_N.calls g s0_0 x1001_2 9 t330 t331 w0 _ ?side1 ?side2 A18.out).mono ?_); (case side1 => repeat (first | (with_reducible first | exact HI0.out | apply IsS64.alloc | apply IsS64.drewN | apply IsS64.drew | apply IsS64.set_1 | refine IsS64.far ?_ NB0_324.out _ | refine IsS64.far ?_ NB0_327.out _) | exact HI0.out)); (case side2 => repeat (first | (with_reducible first | exact HB.out | apply below_alloc | apply pw_below_drewN | apply below_drew1 | refine below_set ?_ (IsS64.ge HI0.out) | refine below_set ?_ GE324.out | refine below_set ?_ GE327.out) | exact HB.out)); rintro e w32 ⟨rfl, hi, hb, hk⟩; refine ⟨_, rfl, ?_⟩; replace HO_328001 := Aside0.mk (Kd.R_mono (Kd.R_keep (IsS64.apart (show IsS64 w0 _ g s0_0 x1001_2 from by repeat (first | (with_reducible first | exact HI0.out | apply IsS64.alloc | apply IsS64.drewN | apply IsS64.drew | apply IsS64.set_1 | refine IsS64.far ?_ NB0_324.out _ | refine IsS64.far ?_ NB0_327.out _) | exact HI0.out)) (zR HO_328001) (by decide)) hk (fun _ h => h.2)) (fun _ h => h.1)); replace BK324 := Aside0.mk (KeepBut.blk hk (g' := gb324) (o := .cells #[.int .i64 0, .slice none 0 0] 24 (0, 0)) (zK BK324) NB324_0.out (by simp)); replace BK327 := Aside0.mk (KeepBut.blk hk (g' := gb327) (o := .cells #[.int .i64 t325, u328001] 24 (0, 0)) (zK BK327) NB327_0.out (by simp)); replace HK := Aside0.mk (KeepBut.trans (by repeat (first | (with_reducible first | exact HK.out | apply KeepBut.set_ | apply keep_drewN | apply keep_drew | apply keep_alloc | refine keep_far ?_ GW324.out _ | refine keep_far ?_ GW327.out _) | exact HK.out)) hk (.inl rfl)); replace HB := Aside0.mk (hb); replace HI0 := Aside0.mk (hi); (try clear hb); (try clear hb2); (try clear hk); (try clear hi))); go_roundg k2
             case measure => have := HK1.out; have := HK2.out; omega
             case rel => exact ⟨(wrap64 (x8_2 + 1)), (t331), (x328001_2), (u328001), zv, H', ⟨by have := HK1.out; have := HK2.out; omega⟩, ⟨zR HO_328001⟩, ⟨zK BK324⟩, ⟨zK BK327⟩, ⟨by repeat (first | (with_reducible first | exact HI0.out | apply IsS64.alloc | apply IsS64.drewN | apply IsS64.drew | apply IsS64.set_1 | refine IsS64.far ?_ NB0_324.out _ | refine IsS64.far ?_ NB0_327.out _) | exact HI0.out)⟩, ⟨by repeat (first | (with_reducible first | exact HK.out | apply KeepBut.set_ | apply keep_drewN | apply keep_drew | apply keep_alloc | refine keep_far ?_ GW324.out _ | refine keep_far ?_ GW327.out _) | exact HK.out)⟩, ⟨by repeat (first | (with_reducible first | exact HB.out | apply below_alloc | apply pw_below_drewN | apply below_drew1 | refine below_set ?_ (IsS64.ge HI0.out) | refine below_set ?_ GE324.out | refine below_set ?_ GE327.out) | exact HB.out)⟩⟩
         · rw [if_neg c17] at H; have c17b0 : (x7_1 == x8_2) = false := beq_eq_false_iff_ne.mpr c17; have c17b1 : (x7_1 != x8_2) = true := bne_iff_ne.mpr c17; replace H := Option.bind_eq_some_iff.mp H; obtain ⟨⟨t335, t336⟩, A330, H⟩ := H; replace H : (if t335 = 1 then (if x328001_2.length < 8796093022208 then (deliberationnet_Graph.l1 k2 t328 x7_1 (wrap64 (x8_2 + 1)) s0_0 t336 t325 (x328001_2 ++ [(⟨x7_1, x8_2⟩ : S42)])) else (none)) else (deliberationnet_Graph.l1 k2 t328 x7_1 (wrap64 (x8_2 + 1)) s0_0 t336 t325 x328001_2)) = some (r1, r2, r3) := H; have A33 := Aside0.mk A330; clear A330; by_cases c34 : t335 = 1
           · rw [if_pos c34] at H; have c34b0 : (t335 == 1) = true := beq_iff_eq.mpr c34; have c34b1 : (t335 != 1) = false := bne_eq_false_iff_eq.mpr c34; clear c34; by_cases c35 : x328001_2.length < 8796093022208
             · rw [if_pos c35] at H; have LMc35 := Aside0.mk c35; clear c35; obtain ⟨y337, hy337⟩ : ∃ y_ : List (S42), y_ = (x328001_2 ++ [(⟨x7_1, x8_2⟩ : S42)]) := ⟨_, rfl⟩; replace H : (deliberationnet_Graph.l1 k2 t328 x7_1 (wrap64 (x8_2 + 1)) s0_0 t336 t325 y337) = some (r1, r2, r3) := by first | (rw [hy337]; with_reducible exact H) | (have H2_ := (Option.bind_some _ _).symm.trans H; rw [hy337]; with_reducible exact H2_) | (have H2_ := (Option.bind_some _ _).symm.trans H; with_reducible exact H2_) | with_reducible exact H | (rw [hy337]; exact H) | exact H
               have Ny337 := Aside0.mk hy337; clear hy337; have H' := Aside0.mk H; clear H; have hnb36 := NB327_324.out; have hnc36 := NB324_327.out; have hnb37 := NB327_0.out; have hnc37 := NB0_327.out; have hcz38_0 := zc BK327 0; have hcz38_1 := zc BK327 1; have hfz38_0 := blk_frozen BK327.out 0; have hfz38_1 := blk_frozen BK327.out 1; go_wp2_with (first | ((with_reducible refine gate_callee (f := 16) rfl ?_); refine zG (some 34) rfl Tryd.func16 #[.pointer (some ⟨g, 0, none⟩), .int .i64 t328] ?_; (with_reducible refine (deliberationkeep_Src_N.calls g s0_0 x1001_2 t328 t335 t336 w0 _ ?side1 ?side2 A33.out).mono ?_); (case side1 => repeat (first | (with_reducible first | exact HI0.out | apply IsS64.alloc | apply IsS64.drewN | apply IsS64.drew | apply IsS64.set_1 | refine IsS64.far ?_ NB0_324.out _ | refine IsS64.far ?_ NB0_327.out _) | exact HI0.out)); (case side2 => repeat (first | (with_reducible first | exact HB.out | apply below_alloc | apply pw_below_drewN | apply below_drew1 | refine below_set ?_ (IsS64.ge HI0.out) | refine below_set ?_ GE324.out | refine below_set ?_ GE327.out) | exact HB.out)); rintro e w39 ⟨rfl, hi, hb, hk⟩; refine ⟨_, rfl, ?_⟩; replace HO_328001 := Aside0.mk (Kd.R_mono (Kd.R_keep (IsS64.apart (show IsS64 w0 _ g s0_0 x1001_2 from by repeat (first | (with_reducible first | exact HI0.out | apply IsS64.alloc | apply IsS64.drewN | apply IsS64.drew | apply IsS64.set_1 | refine IsS64.far ?_ NB0_324.out _ | refine IsS64.far ?_ NB0_327.out _) | exact HI0.out)) (zR HO_328001) (by decide)) hk (fun _ h => h.2)) (fun _ h => h.1)); replace BK324 := Aside0.mk (KeepBut.blk hk (g' := gb324) (o := .cells #[.int .i64 0, .slice none 0 0] 24 (0, 0)) (zK BK324) NB324_0.out (by simp)); replace BK327 := Aside0.mk (KeepBut.blk hk (g' := gb327) (o := .cells #[.int .i64 t325, u328001] 24 (0, 0)) (zK BK327) NB327_0.out (by simp)); replace HK := Aside0.mk (KeepBut.trans (by repeat (first | (with_reducible first | exact HK.out | apply KeepBut.set_ | apply keep_drewN | apply keep_drew | apply keep_alloc | refine keep_far ?_ GW324.out _ | refine keep_far ?_ GW327.out _) | exact HK.out)) hk (.inl rfl)); replace HB := Aside0.mk (hb); replace HI0 := Aside0.mk (hi); (try clear hb); (try clear hb2); (try clear hk); (try clear hi); have hcz40_0 := zc BK327 0; have hcz40_1 := zc BK327 1; have hfz40_0 := blk_frozen BK327.out 0; have hfz40_1 := blk_frozen BK327.out 1) | ((with_reducible refine gate_builtin (b := .append) (xs := #[.tmp 37, .tmp 41]) rfl ?_); at_builtin; refine Kd.R_append k42 w.heap.size rfl (.tmp 37) (.tmp 41) 22 42 (.agg #[(.int .i64 0), (.int .i64 0)]) 16 rfl Tryd.underlying22 info42 rfl (by decide) (by omega) u328001 x328001_2 (⟨x7_1, x8_2⟩ : S42) [.int .i64 x7_1, .int .i64 x8_2] (fun _ => True) (fun _ => False) rfl rfl ?aP (fun _ hk => hk.elim) ?aF ?aO (Below.refl _ _) ?aS ?aL ?_; (case aP => exact k42_mkM _ _ _ (⟨x7_1, x8_2⟩ : S42)); (case aF => exact (fun _ _ => trivial)); (case aO => exact (zR HO_328001)); (case aS => exact (keep_size (w := w) (g := g) (row := none) (by repeat (first | (with_reducible first | exact HK.out | apply KeepBut.set_ | apply keep_drewN | apply keep_drew | apply keep_alloc | refine keep_far ?_ GW324.out _ | refine keep_far ?_ GW327.out _) | exact HK.out)))); (case aL => have := LMc35.out; omega); intro v338 w41 ho hb hg hat; rw [← Ny337.out] at ho; have HO339 := Aside0.mk (ho); replace BK324 := Aside0.mk (blk_grown (g := gb324) (o := .cells #[.int .i64 0, .slice none 0 0] 24 (0, 0)) (zK BK324) hg (Kd.R_ne HO_328001.out BK324.out (by decide))); replace BK327 := Aside0.mk (blk_grown (g := gb327) (o := .cells #[.int .i64 t325, u328001] 24 (0, 0)) (zK BK327) hg (Kd.R_ne HO_328001.out BK327.out (by decide))); replace HB := Aside0.mk (below_weaken (by repeat (first | (with_reducible first | exact HB.out | apply below_alloc | apply pw_below_drewN | apply below_drew1 | refine below_set ?_ (IsS64.ge HI0.out) | refine below_set ?_ GE324.out | refine below_set ?_ GE327.out) | exact HB.out)) HL.out hb); replace HI0 := Aside0.mk (IsS64.grown (by repeat (first | (with_reducible first | exact HI0.out | apply IsS64.alloc | apply IsS64.drewN | apply IsS64.drew | apply IsS64.set_1 | refine IsS64.far ?_ NB0_324.out _ | refine IsS64.far ?_ NB0_327.out _) | exact HI0.out)) hg (IsS64.own_ne HI0.out HO_328001.out (by decide))); replace HK := Aside0.mk (KeepBut.trans (by repeat (first | (with_reducible first | exact HK.out | apply KeepBut.set_ | apply keep_drewN | apply keep_drew | apply keep_alloc | refine keep_far ?_ GW324.out _ | refine keep_far ?_ GW327.out _) | exact HK.out)) (KeepBut.of_grown hg g) (Kd.R_base2 HO_328001.out)); clear HO_328001; clear ho hb hg hat; obtain ⟨Ao42, co42, eo42⟩ := Kd.R_slice HO339.out; subst eo42; have hcz43_0 := zc BK327 0; have hcz43_1 := zc BK327 1; have hfz43_0 := blk_frozen BK327.out 0; have hfz43_1 := blk_frozen BK327.out 1)); go_roundg k2
               case measure => have := HK1.out; have := HK2.out; omega
               case rel => exact ⟨(wrap64 (x8_2 + 1)), (t336), (y337), (.slice Ao42 y337.length co42), zv, H', ⟨by have := HK1.out; have := HK2.out; omega⟩, ⟨by refine zkR ?_; exact Kd.R_mono (Kd.R_far (p := ⟨gb327, 1, none⟩) (Kd.R_types HO339.out BK327.out (by decide)) (fun _ hk => hk.2) (.slice Ao42 y337.length co42)) (fun _ hk => trivial)⟩, ⟨by refine zk ?_; refine blk_far ?_ NB324_327.out _; refine zk ?_; exact BK324.out⟩, ⟨by refine zk ?_; refine blk_put (cs := #[.int .i64 t325, u328001]) ?_ 1 _ rfl; refine zk ?_; exact BK327.out⟩, ⟨by repeat (first | (with_reducible first | exact HI0.out | apply IsS64.alloc | apply IsS64.drewN | apply IsS64.drew | apply IsS64.set_1 | refine IsS64.far ?_ NB0_324.out _ | refine IsS64.far ?_ NB0_327.out _) | exact HI0.out)⟩, ⟨by repeat (first | (with_reducible first | exact HK.out | apply KeepBut.set_ | apply keep_drewN | apply keep_drew | apply keep_alloc | refine keep_far ?_ GW324.out _ | refine keep_far ?_ GW327.out _) | exact HK.out)⟩, ⟨by repeat (first | (with_reducible first | exact HB.out | apply below_alloc | apply pw_below_drewN | apply below_drew1 | refine below_set ?_ (IsS64.ge HI0.out) | refine below_set ?_ GE324.out | refine below_set ?_ GE327.out) | exact HB.out)⟩⟩
             · rw [if_neg c35] at H; exact absurd H (by simp)
           · rw [if_neg c34] at H; have c34b0 : (t335 == 1) = false := beq_eq_false_iff_ne.mpr c34; have c34b1 : (t335 != 1) = true := bne_iff_ne.mpr c34; have H' := Aside0.mk H; clear H; have hnb44 := NB327_324.out; have hnc44 := NB324_327.out; have hnb45 := NB327_0.out; have hnc45 := NB0_327.out; have hcz46_0 := zc BK327 0; have hcz46_1 := zc BK327 1; have hfz46_0 := blk_frozen BK327.out 0; have hfz46_1 := blk_frozen BK327.out 1; go_wp2_with (first | ((with_reducible refine gate_callee (f := 16) rfl ?_); refine zG (some 34) rfl Tryd.func16 #[.pointer (some ⟨g, 0, none⟩), .int .i64 t328] ?_; (with_reducible refine (deliberationkeep_Src_N.calls g s0_0 x1001_2 t328 t335 t336 w0 _ ?side1 ?side2 A33.out).mono ?_); (case side1 => repeat (first | (with_reducible first | exact HI0.out | apply IsS64.alloc | apply IsS64.drewN | apply IsS64.drew | apply IsS64.set_1 | refine IsS64.far ?_ NB0_324.out _ | refine IsS64.far ?_ NB0_327.out _) | exact HI0.out)); (case side2 => repeat (first | (with_reducible first | exact HB.out | apply below_alloc | apply pw_below_drewN | apply below_drew1 | refine below_set ?_ (IsS64.ge HI0.out) | refine below_set ?_ GE324.out | refine below_set ?_ GE327.out) | exact HB.out)); rintro e w47 ⟨rfl, hi, hb, hk⟩; refine ⟨_, rfl, ?_⟩; replace HO_328001 := Aside0.mk (Kd.R_mono (Kd.R_keep (IsS64.apart (show IsS64 w0 _ g s0_0 x1001_2 from by repeat (first | (with_reducible first | exact HI0.out | apply IsS64.alloc | apply IsS64.drewN | apply IsS64.drew | apply IsS64.set_1 | refine IsS64.far ?_ NB0_324.out _ | refine IsS64.far ?_ NB0_327.out _) | exact HI0.out)) (zR HO_328001) (by decide)) hk (fun _ h => h.2)) (fun _ h => h.1)); replace BK324 := Aside0.mk (KeepBut.blk hk (g' := gb324) (o := .cells #[.int .i64 0, .slice none 0 0] 24 (0, 0)) (zK BK324) NB324_0.out (by simp)); replace BK327 := Aside0.mk (KeepBut.blk hk (g' := gb327) (o := .cells #[.int .i64 t325, u328001] 24 (0, 0)) (zK BK327) NB327_0.out (by simp)); replace HK := Aside0.mk (KeepBut.trans (by repeat (first | (with_reducible first | exact HK.out | apply KeepBut.set_ | apply keep_drewN | apply keep_drew | apply keep_alloc | refine keep_far ?_ GW324.out _ | refine keep_far ?_ GW327.out _) | exact HK.out)) hk (.inl rfl)); replace HB := Aside0.mk (hb); replace HI0 := Aside0.mk (hi); (try clear hb); (try clear hb2); (try clear hk); (try clear hi))); go_roundg k2
             case measure => have := HK1.out; have := HK2.out; omega
             case rel => exact ⟨(wrap64 (x8_2 + 1)), (t336), (x328001_2), (u328001), zv, H', ⟨by have := HK1.out; have := HK2.out; omega⟩, ⟨zR HO_328001⟩, ⟨zK BK324⟩, ⟨zK BK327⟩, ⟨by repeat (first | (with_reducible first | exact HI0.out | apply IsS64.alloc | apply IsS64.drewN | apply IsS64.drew | apply IsS64.set_1 | refine IsS64.far ?_ NB0_324.out _ | refine IsS64.far ?_ NB0_327.out _) | exact HI0.out)⟩, ⟨by repeat (first | (with_reducible first | exact HK.out | apply KeepBut.set_ | apply keep_drewN | apply keep_drew | apply keep_alloc | refine keep_far ?_ GW324.out _ | refine keep_far ?_ GW327.out _) | exact HK.out)⟩, ⟨by repeat (first | (with_reducible first | exact HB.out | apply below_alloc | apply pw_below_drewN | apply below_drew1 | refine below_set ?_ (IsS64.ge HI0.out) | refine below_set ?_ GE324.out | refine below_set ?_ GE327.out) | exact HB.out)⟩⟩
       · rw [if_neg c16] at H; have c16b0 : decide (x8_2 < t325) = false := decide_eq_false c16; clear c16; have H' := Aside0.mk H; clear H; have hnb48 := NB327_324.out; have hnc48 := NB324_327.out; have hnb49 := NB327_0.out; have hnc49 := NB0_327.out; have hcz50_0 := zc BK327 0; have hcz50_1 := zc BK327 1; have hfz50_0 := blk_frozen BK327.out 0; have hfz50_1 := blk_frozen BK327.out 1; go_wp2; go_roundg k2
         case measure => have := HK1.out; have := HK2.out; omega
         case rel => exact ⟨(wrap64 (x7_1 + 1)), (x1001_2), (x328001_2), (u328001), zv, H', ⟨by have := HK1.out; have := HK2.out; omega⟩, ⟨zR HO_328001⟩, ⟨zK BK324⟩, ⟨zK BK327⟩, ⟨by repeat (first | (with_reducible first | exact HI0.out | apply IsS64.alloc | apply IsS64.drewN | apply IsS64.drew | apply IsS64.set_1 | refine IsS64.far ?_ NB0_324.out _ | refine IsS64.far ?_ NB0_327.out _) | exact HI0.out)⟩, ⟨by repeat (first | (with_reducible first | exact HK.out | apply KeepBut.set_ | apply keep_drewN | apply keep_drew | apply keep_alloc | refine keep_far ?_ GW324.out _ | refine keep_far ?_ GW327.out _) | exact HK.out)⟩, ⟨by repeat (first | (with_reducible first | exact HB.out | apply below_alloc | apply pw_below_drewN | apply below_drew1 | refine below_set ?_ (IsS64.ge HI0.out) | refine below_set ?_ GE324.out | refine below_set ?_ GE327.out) | exact HB.out)⟩⟩
   · rw [if_neg c12] at H; have c12b0 : decide (x7_1 < t325) = false := decide_eq_false c12; clear c12; simp only [Option.some.injEq, Prod.mk.injEq] at H; obtain ⟨rfl, rfl, rfl⟩ := H; have hnb51 := NB327_324.out; have hnc51 := NB324_327.out; have hnb52 := NB327_0.out; have hnc52 := NB0_327.out; have hcz53_0 := zc BK327 0; have hcz53_1 := zc BK327 1; have hfz53_0 := blk_frozen BK327.out 0; have hfz53_1 := blk_frozen BK327.out 1; have hnb54 := NB324_0.out; have hnc54 := NB0_324.out; have hcz55_0 := zc BK324 0; have hcz55_1 := zc BK324 1; have hfz55_0 := blk_frozen BK324.out 0; have hfz55_1 := blk_frozen BK324.out 1; obtain ⟨Ao56, co56, eo56⟩ := Kd.R_slice HO_328001.out; subst eo56; go_wp2; refine bodyPost_ret (results_cell_row rfl _ _ gb324 24 #[.int .i64 t325, .slice Ao56 x328001_1.length co56] (0, 0) _ rfl (by refine zk ?_; refine blk_put (cs := #[.int .i64 t325, .slice none 0 0]) ?_ 1 _ rfl; refine zk ?_; refine blk_put (cs := #[.int .i64 0, .slice none 0 0]) ?_ 0 _ rfl; refine zk ?_; exact BK324.out) Tryd.underlying24 rfl (by kernel_rfl)) rfl ?_; exact ⟨_, by first | rfl | (simp [errW_none, errW_some] <;> rfl) | (simp [*, errW_none, errW_some] <;> rfl), by refine zkR ?_; exact Kd.R_mono (Kd.R_far (p := ⟨gb324, 1, none⟩) (Kd.R_far (p := ⟨gb324, 0, none⟩) (Kd.R_types HO_328001.out BK324.out (by decide)) (fun _ hk => hk.2) (.int .i64 t325)) (fun _ hk => hk.2) (.slice Ao56 x328001_1.length co56)) (fun _ hk => trivial), by repeat (first | (with_reducible first | exact HI0.out | apply IsS64.alloc | apply IsS64.drewN | apply IsS64.drew | apply IsS64.set_1 | refine IsS64.far ?_ NB0_324.out _ | refine IsS64.far ?_ NB0_327.out _) | exact HI0.out), by repeat (first | (with_reducible first | exact HB.out | apply below_alloc | apply pw_below_drewN | apply below_drew1 | refine below_set ?_ (IsS64.ge HI0.out) | refine below_set ?_ GE324.out | refine below_set ?_ GE327.out) | exact HB.out), by repeat (first | (with_reducible first | exact HK.out | apply KeepBut.set_ | apply keep_drewN | apply keep_drew | apply keep_alloc | refine keep_far ?_ GW324.out _ | refine keep_far ?_ GW327.out _) | exact HK.out)⟩
end Go.Proofs.YtjmdlmogdbhdhaaDoor.P
namespace Go.Proofs.YtjmdlmogdbhdhaaDoor.P
open Go.RowKit Go.Proofs.YtjmdlmogdbhdhaaDoorW.PrintWords Go.Proofs.YtjmdlmogdbhdhaaDoorW.PrintLast Go.Proofs.YtjmdlmogdbhdhaaDoorW.PrintMore
attribute [local go_sem] max2_int min2_int max_two min_two max_three min_three max_four min_four
set_option linter.unusedVariables false
set_option linter.unusedSimpArgs false
def deliberationlaw21_pairs.l0 : Nat → Int → List (S42) → Int → List Int → Int → Option ((List (S42)) × Int)
 | 0, _, _, _, _, _ => none
 | k + 1, x1, x5, x6, x1000, x1001 => if x6 > 0 then ((deliberationkeep_Src_N.f x1000 x1001 x1).bind fun bt561 => ((deliberationkeep_Src_N.f x1000 bt561.2 x1).bind fun bt563 => (if x5.length < 8796093022208 then (deliberationlaw21_pairs.l0 k x1 (x5 ++ [(⟨bt561.1, bt563.1⟩ : S42)]) (wrap64 (x6 - 1)) x1000 bt563.2) else (none)))) else (some (x5, x1001))
def deliberationlaw21_pairs.f (k : Nat) (s0_0 : List Int) (s0_1 : Int) (a1 : Int) : Option ((List (S42)) × Int) := (deliberationkeep_Src_N.f s0_0 s0_1 5).bind fun bt559 => (deliberationlaw21_pairs.l0 k a1 ([] : List (S42)) bt559.1 s0_0 bt559.2)
set_option maxHeartbeats 8000000 in
set_option maxRecDepth 100000 in
theorem deliberationlaw21_pairs.calls (k : Nat) (g : Nat) (s0_0 : List Int) (s0_1 : Int) (a1 : Int) (r1 : List (S42)) (r2 : Int) (w0 w : World) (hI : IsS64 w0 w g s0_0 s0_1) (hB : Below w0.heap.size w0 w) (h : deliberationlaw21_pairs.f k s0_0 s0_1 a1 = some (r1, r2)) :
 Calls Tryd.prog 19 #[.pointer (some ⟨g, 0, none⟩), .int .i64 a1] w fun e w' => ∃ v0_ : Value, e = .returned (v0_) ∧ Kd.R k42 42 w' w.heap.size (fun _ => True) v0_ r1 ∧ IsS64 w0 w' g s0_0 r2 ∧ Below w0.heap.size w0 w' ∧ KeepBut w w' g none := by
 have hu42 := Tryd.underlying42; have HI0 := Aside0.mk hI; have HK := Aside0.mk (KeepBut.refl w g none); have HL := Aside0.mk hB.size; clear hI; have HW0 := Aside0.mk hB.size; have HB := Aside0.mk hB; clear hB; have H : ((deliberationkeep_Src_N.f s0_0 s0_1 5).bind fun bt559 => (deliberationlaw21_pairs.l0 k a1 ([] : List (S42)) bt559.1 s0_0 bt559.2)) = some (r1, r2) := h; clear h; replace H := Option.bind_eq_some_iff.mp H; obtain ⟨⟨t559, t560⟩, A30, H⟩ := H; replace H : (deliberationlaw21_pairs.l0 k a1 ([] : List (S42)) t559 s0_0 t560) = some (r1, r2) := H; have A3 := Aside0.mk A30; clear A30; have H' := Aside0.mk H; clear H; go_enter Tryd.func19, Tryd.ntmps19; go_wp2_with (first | ((with_reducible refine gate_callee (f := 16) rfl ?_); refine zG (some 8) rfl Tryd.func16 #[.pointer (some ⟨g, 0, none⟩), .int .i64 5] ?_; (with_reducible refine (deliberationkeep_Src_N.calls g s0_0 s0_1 5 t559 t560 w0 _ ?side1 ?side2 A3.out).mono ?_); (case side1 => repeat (first | (with_reducible first | exact HI0.out | apply IsS64.alloc | apply IsS64.drewN | apply IsS64.drew | apply IsS64.set_1) | exact HI0.out)); (case side2 => repeat (first | (with_reducible first | exact HB.out | apply below_alloc | apply pw_below_drewN | apply below_drew1 | refine below_set ?_ (IsS64.ge HI0.out)) | exact HB.out)); rintro e w4 ⟨rfl, hi, hb, hk⟩; refine ⟨_, rfl, ?_⟩; replace HK := Aside0.mk (KeepBut.trans (by repeat (first | (with_reducible first | exact HK.out | apply KeepBut.set_ | apply keep_drewN | apply keep_drew | apply keep_alloc) | exact HK.out)) hk (.inl rfl)); replace HB := Aside0.mk (hb); replace HI0 := Aside0.mk (hi); (try clear hb); (try clear hb2); (try clear hk); (try clear hi))); go_loopg [5, 6] k (fun kq v5 v6 w' => ∃ (x5_1 : List (S42)) (x6_1 : Int) (x1001_1 : Int), v6 = .int .i64 x6_1 ∧ Aside0 (deliberationlaw21_pairs.l0 kq a1 x5_1 x6_1 s0_0 x1001_1 = some (r1, r2)) ∧ Aside0 (kq ≤ k) ∧ Aside0 (Kd.R k42 42 w' w.heap.size (fun _ => True) v5 x5_1) ∧ Aside0 (IsS64 w0 w' g s0_0 x1001_1) ∧ Aside0 (KeepBut w w' g none) ∧ Aside0 (Below w0.heap.size w0 w'))
 case atStart => exact ⟨(([] : List (S42))), (t559), (t560), zv, H', ⟨Nat.le_refl _⟩, ⟨by first | exact Kd.R_nil _ _ _ _ _ | exact Kd.N_nil _ _ _ _ _ | exact Kd.V_nil _ _ _ _ _ | exact Kd.Q_nil _ _ _ _ _ | exact Kd.S_nil _ _ _ _ _ | exact Kd.R_nil _ _ _ 0 _⟩, ⟨by repeat (first | (with_reducible first | exact HI0.out | apply IsS64.alloc | apply IsS64.drewN | apply IsS64.drew | apply IsS64.set_1) | exact HI0.out)⟩, ⟨by repeat (first | (with_reducible first | exact HK.out | apply KeepBut.set_ | apply keep_drewN | apply keep_drew | apply keep_alloc) | exact HK.out)⟩, ⟨by repeat (first | (with_reducible first | exact HB.out | apply below_alloc | apply pw_below_drewN | apply below_drew1 | refine below_set ?_ (IsS64.ge HI0.out)) | exact HB.out)⟩⟩
 case round =>
  clear H'; try clear c1
  try clear p2
  obtain ⟨x5_1, x6_1, x1001_1, rfl, HA, HK1, HO_5, HI0, HK, HB⟩ := hrel; cases gk with
  | zero => exact absurd HA.out (by simp [deliberationlaw21_pairs.l0])
  | succ k1 =>
   have H := HA.out; clear HA; simp only [deliberationlaw21_pairs.l0] at H; by_cases c5 : x6_1 > 0
   · rw [if_pos c5] at H; have c5b0 : decide (0 < x6_1) = true := decide_eq_true c5; clear c5; replace H := Option.bind_eq_some_iff.mp H; obtain ⟨⟨t561, t562⟩, A60, H⟩ := H; replace H : ((deliberationkeep_Src_N.f s0_0 t562 a1).bind fun bt563 => (if x5_1.length < 8796093022208 then (deliberationlaw21_pairs.l0 k1 a1 (x5_1 ++ [(⟨t561, bt563.1⟩ : S42)]) (wrap64 (x6_1 - 1)) s0_0 bt563.2) else (none))) = some (r1, r2) := H; have A6 := Aside0.mk A60; clear A60; replace H := Option.bind_eq_some_iff.mp H; obtain ⟨⟨t563, t564⟩, A70, H⟩ := H; replace H : (if x5_1.length < 8796093022208 then (deliberationlaw21_pairs.l0 k1 a1 (x5_1 ++ [(⟨t561, t563⟩ : S42)]) (wrap64 (x6_1 - 1)) s0_0 t564) else (none)) = some (r1, r2) := H; have A7 := Aside0.mk A70; clear A70; by_cases c8 : x5_1.length < 8796093022208
     · rw [if_pos c8] at H; have LMc8 := Aside0.mk c8; clear c8; obtain ⟨y565, hy565⟩ : ∃ y_ : List (S42), y_ = (x5_1 ++ [(⟨t561, t563⟩ : S42)]) := ⟨_, rfl⟩; replace H : (deliberationlaw21_pairs.l0 k1 a1 y565 (wrap64 (x6_1 - 1)) s0_0 t564) = some (r1, r2) := by first | (rw [hy565]; with_reducible exact H) | (have H2_ := (Option.bind_some _ _).symm.trans H; rw [hy565]; with_reducible exact H2_) | (have H2_ := (Option.bind_some _ _).symm.trans H; with_reducible exact H2_) | with_reducible exact H | (rw [hy565]; exact H) | exact H
       have Ny565 := Aside0.mk hy565; clear hy565; have H' := Aside0.mk H; clear H; go_wp2_with (first | ((with_reducible refine gate_callee (f := 16) rfl ?_); refine zG (some 16) rfl Tryd.func16 #[.pointer (some ⟨g, 0, none⟩), .int .i64 a1] ?_; (with_reducible refine (deliberationkeep_Src_N.calls g s0_0 x1001_1 a1 t561 t562 w0 _ ?side1 ?side2 A6.out).mono ?_); (case side1 => repeat (first | (with_reducible first | exact HI0.out | apply IsS64.alloc | apply IsS64.drewN | apply IsS64.drew | apply IsS64.set_1) | exact HI0.out)); (case side2 => repeat (first | (with_reducible first | exact HB.out | apply below_alloc | apply pw_below_drewN | apply below_drew1 | refine below_set ?_ (IsS64.ge HI0.out)) | exact HB.out)); rintro e w9 ⟨rfl, hi, hb, hk⟩; refine ⟨_, rfl, ?_⟩; replace HO_5 := Aside0.mk (Kd.R_mono (Kd.R_keep (IsS64.apart (show IsS64 w0 _ g s0_0 x1001_1 from by repeat (first | (with_reducible first | exact HI0.out | apply IsS64.alloc | apply IsS64.drewN | apply IsS64.drew | apply IsS64.set_1) | exact HI0.out)) (zR HO_5) (by decide)) hk (fun _ h => h.2)) (fun _ h => h.1)); replace HK := Aside0.mk (KeepBut.trans (by repeat (first | (with_reducible first | exact HK.out | apply KeepBut.set_ | apply keep_drewN | apply keep_drew | apply keep_alloc) | exact HK.out)) hk (.inl rfl)); replace HB := Aside0.mk (hb); replace HI0 := Aside0.mk (hi); (try clear hb); (try clear hb2); (try clear hk); (try clear hi)) | ((with_reducible refine gate_callee (f := 16) rfl ?_); refine zG (some 19) rfl Tryd.func16 #[.pointer (some ⟨g, 0, none⟩), .int .i64 a1] ?_; (with_reducible refine (deliberationkeep_Src_N.calls g s0_0 t562 a1 t563 t564 w0 _ ?side1 ?side2 A7.out).mono ?_); (case side1 => repeat (first | (with_reducible first | exact HI0.out | apply IsS64.alloc | apply IsS64.drewN | apply IsS64.drew | apply IsS64.set_1) | exact HI0.out)); (case side2 => repeat (first | (with_reducible first | exact HB.out | apply below_alloc | apply pw_below_drewN | apply below_drew1 | refine below_set ?_ (IsS64.ge HI0.out)) | exact HB.out)); rintro e w10 ⟨rfl, hi, hb, hk⟩; refine ⟨_, rfl, ?_⟩; replace HO_5 := Aside0.mk (Kd.R_mono (Kd.R_keep (IsS64.apart (show IsS64 w0 _ g s0_0 t562 from by repeat (first | (with_reducible first | exact HI0.out | apply IsS64.alloc | apply IsS64.drewN | apply IsS64.drew | apply IsS64.set_1) | exact HI0.out)) (zR HO_5) (by decide)) hk (fun _ h => h.2)) (fun _ h => h.1)); replace HK := Aside0.mk (KeepBut.trans (by repeat (first | (with_reducible first | exact HK.out | apply KeepBut.set_ | apply keep_drewN | apply keep_drew | apply keep_alloc) | exact HK.out)) hk (.inl rfl)); replace HB := Aside0.mk (hb); replace HI0 := Aside0.mk (hi); (try clear hb); (try clear hb2); (try clear hk); (try clear hi)) | ((with_reducible refine gate_builtin (b := .append) (xs := #[.tmp 13, .tmp 21]) rfl ?_); at_builtin; refine Kd.R_append k42 w.heap.size rfl (.tmp 13) (.tmp 21) 22 42 (.agg #[(.int .i64 0), (.int .i64 0)]) 16 rfl Tryd.underlying22 info42 rfl (by decide) (by omega) u5 x5_1 (⟨t561, t563⟩ : S42) [.int .i64 t561, .int .i64 t563] (fun _ => True) (fun _ => False) rfl rfl ?aP (fun _ hk => hk.elim) ?aF ?aO (Below.refl _ _) ?aS ?aL ?_; (case aP => exact k42_mkM _ _ _ (⟨t561, t563⟩ : S42)); (case aF => exact (fun _ _ => trivial)); (case aO => exact (zR HO_5)); (case aS => exact (keep_size (w := w) (g := g) (row := none) (by repeat (first | (with_reducible first | exact HK.out | apply KeepBut.set_ | apply keep_drewN | apply keep_drew | apply keep_alloc) | exact HK.out)))); (case aL => have := LMc8.out; omega); intro v566 w11 ho hb hg hat; rw [← Ny565.out] at ho; have HO567 := Aside0.mk (ho); replace HB := Aside0.mk (below_weaken (by repeat (first | (with_reducible first | exact HB.out | apply below_alloc | apply pw_below_drewN | apply below_drew1 | refine below_set ?_ (IsS64.ge HI0.out)) | exact HB.out)) HL.out hb); replace HI0 := Aside0.mk (IsS64.grown (by repeat (first | (with_reducible first | exact HI0.out | apply IsS64.alloc | apply IsS64.drewN | apply IsS64.drew | apply IsS64.set_1) | exact HI0.out)) hg (IsS64.own_ne HI0.out HO_5.out (by decide))); replace HK := Aside0.mk (KeepBut.trans (by repeat (first | (with_reducible first | exact HK.out | apply KeepBut.set_ | apply keep_drewN | apply keep_drew | apply keep_alloc) | exact HK.out)) (KeepBut.of_grown hg g) (Kd.R_base2 HO_5.out)); clear HO_5; clear ho hb hg hat)); go_roundg k1
       case measure => have := HK1.out; omega
       case rel => exact ⟨(y565), (wrap64 (x6_1 - 1)), (t564), zv, H', ⟨by have := HK1.out; omega⟩, ⟨zR HO567⟩, ⟨by repeat (first | (with_reducible first | exact HI0.out | apply IsS64.alloc | apply IsS64.drewN | apply IsS64.drew | apply IsS64.set_1) | exact HI0.out)⟩, ⟨by repeat (first | (with_reducible first | exact HK.out | apply KeepBut.set_ | apply keep_drewN | apply keep_drew | apply keep_alloc) | exact HK.out)⟩, ⟨by repeat (first | (with_reducible first | exact HB.out | apply below_alloc | apply pw_below_drewN | apply below_drew1 | refine below_set ?_ (IsS64.ge HI0.out)) | exact HB.out)⟩⟩
     · rw [if_neg c8] at H; exact absurd H (by simp)
   · rw [if_neg c5] at H; have c5b0 : decide (0 < x6_1) = false := decide_eq_false c5; clear c5; simp only [Option.some.injEq, Prod.mk.injEq] at H; obtain ⟨rfl, rfl⟩ := H; go_wp2; go_ret; exact ⟨_, by first | rfl | (simp [errW_none, errW_some] <;> rfl) | (simp [*, errW_none, errW_some] <;> rfl), by refine zkR ?_; exact HO_5.out, by repeat (first | (with_reducible first | exact HI0.out | apply IsS64.alloc | apply IsS64.drewN | apply IsS64.drew | apply IsS64.set_1) | exact HI0.out), by repeat (first | (with_reducible first | exact HB.out | apply below_alloc | apply pw_below_drewN | apply below_drew1 | refine below_set ?_ (IsS64.ge HI0.out)) | exact HB.out), by repeat (first | (with_reducible first | exact HK.out | apply KeepBut.set_ | apply keep_drewN | apply keep_drew | apply keep_alloc) | exact HK.out)⟩
end Go.Proofs.YtjmdlmogdbhdhaaDoor.P
namespace Go.Proofs.YtjmdlmogdbhdhaaDoor.P
open Go.RowKit Go.Proofs.YtjmdlmogdbhdhaaDoorW.PrintWords Go.Proofs.YtjmdlmogdbhdhaaDoorW.PrintLast Go.Proofs.YtjmdlmogdbhdhaaDoorW.PrintMore
attribute [local go_sem] max2_int min2_int max_two min_two max_three min_three max_four min_four
set_option linter.unusedVariables false
set_option linter.unusedSimpArgs false
attribute [local go_sem high] eqA42
def deliberationref21_Has.l0 : Nat → List (S42) → Int → Int → Int → Option (Bool)
 | 0, _, _, _, _ => none
 | k + 1, x0, x5, x460000, x460001 => if x5 < (x0.length : Int) then (if 0 ≤ x5 then (if (((rd_T42 x0 x5).f0) == x460000 && (((rd_T42 x0 x5).f1) == x460001)) = true then (some true) else (deliberationref21_Has.l0 k x0 (wrap64 (x5 + 1)) x460000 x460001)) else (none)) else (some false)
def deliberationref21_Has.f (k : Nat) (l0 : List (S42)) (a1_0 : Int) (a1_1 : Int) : Option (Bool) := deliberationref21_Has.l0 k l0 0 a1_0 a1_1
set_option maxHeartbeats 8000000 in
set_option maxRecDepth 100000 in
theorem deliberationref21_Has.calls (k : Nat) (A0 : Option Addr) (c0 : Nat) (l0 : List (S42)) (a1_0 : Int) (a1_1 : Int) (r : Bool) (w : World) (hr0 : Kd.C k42 w A0 l0.length l0) (hc0 : l0.length ≤ c0) (h : deliberationref21_Has.f k l0 a1_0 a1_1 = some r) :
 Calls Tryd.prog 20 #[.slice A0 l0.length c0, .agg #[.int .i64 a1_0, .int .i64 a1_1]] w fun e w' => e = .returned (.bool r) ∧ Below w.heap.size w w' := by
 have hu42 := Tryd.underlying42; have HR0 := Aside0.mk hr0; have HC0 := Aside0.mk hc0; clear hr0 hc0; have HB := Aside0.mk (Below.refl w.heap.size w); have H : (deliberationref21_Has.l0 k l0 0 a1_0 a1_1) = some r := h; clear h; have H' := Aside0.mk H; clear H; go_enter Tryd.func20, Tryd.ntmps20; go_wp2_with (first | ((with_reducible refine gate_dst (N := 3) rfl ?_); refine zX (N := 3) (cs := #[.int .i64 a1_0, .int .i64 a1_1]) (t := 42) ?_; intro gb459 hg w3 hbox hb; have BK459 := Aside0.mk (hbox); have GW459 := Aside0.mk (zW hg HB); have GE459 := Aside0.mk (zW hg HB); replace HB := Aside0.mk (below_step (zB HB) hb); clear hb hbox hg)); repeat (go_quiet (first | ((with_reducible refine gate_dst (N := 3) rfl ?_); refine zX (N := 3) (cs := #[.int .i64 a1_0, .int .i64 a1_1]) (t := 42) ?_; intro gb459 hg w3 hbox hb; have BK459 := Aside0.mk (hbox); have GW459 := Aside0.mk (zW hg HB); have GE459 := Aside0.mk (zW hg HB); replace HB := Aside0.mk (below_step (zB HB) hb); clear hb hbox hg)); try go_wp2_with (first | ((with_reducible refine gate_dst (N := 3) rfl ?_); refine zX (N := 3) (cs := #[.int .i64 a1_0, .int .i64 a1_1]) (t := 42) ?_; intro gb459 hg w3 hbox hb; have BK459 := Aside0.mk (hbox); have GW459 := Aside0.mk (zW hg HB); have GE459 := Aside0.mk (zW hg HB); replace HB := Aside0.mk (below_step (zB HB) hb); clear hb hbox hg)))
 go_loopg [5] k (fun kq v5 w' => ∃ (x5_1 : Int), v5 = .int .i64 x5_1 ∧ Aside0 (deliberationref21_Has.l0 kq l0 x5_1 a1_0 a1_1 = some r) ∧ Aside0 (kq ≤ k) ∧ Aside0 (w'.heap[gb459]? = some (.cells #[.int .i64 a1_0, .int .i64 a1_1] 42 (0, 0))) ∧ Aside0 (Below w.heap.size w w'))
 case atStart => exact ⟨(0), zv, H', ⟨Nat.le_refl _⟩, ⟨zK BK459⟩, ⟨zB HB⟩⟩
 case round =>
  clear H'; try clear c2
  try clear p2
  obtain ⟨x5_1, rfl, HA, HK1, BK459, HB⟩ := hrel; cases gk with
  | zero => exact absurd HA.out (by simp [deliberationref21_Has.l0])
  | succ k1 =>
   have H := HA.out; clear HA; simp only [deliberationref21_Has.l0] at H; by_cases c4 : x5_1 < (l0.length : Int)
   · rw [if_pos c4] at H; have c4b0 : decide (x5_1 < (l0.length : Int)) = true := decide_eq_true c4; clear c4; by_cases c5 : 0 ≤ x5_1
     · rw [if_pos c5] at H; have c5b0 : decide (0 ≤ x5_1) = true := decide_eq_true c5; clear c5; by_cases c6 : (((rd_T42 l0 x5_1).f0) == a1_0 && (((rd_T42 l0 x5_1).f1) == a1_1)) = true
       · rw [if_pos c6] at H; have c6b0 : (((rd_T42 l0 x5_1).f0) == a1_0 && (((rd_T42 l0 x5_1).f1) == a1_1)) = true := c6; (try (have c6b1 : decide (((rd_T42 l0 x5_1).f0) = a1_0 && (((rd_T42 l0 x5_1).f1) == a1_1)) = true := by simpa using c6)); (try (have c6b2 : (((rd_T42 l0 x5_1).f0) == a1_0 && (((rd_T42 l0 x5_1).f1) == a1_1)) = true := by simpa using c6)); clear c6; obtain rfl := Option.some.inj H; have p460 : 0 ≤ (x5_1 : Int) := of_decide_eq_true (by first | (with_reducible assumption) | assumption); have q460 : x5_1 < (l0.length : Int) := of_decide_eq_true (by first | (with_reducible assumption) | assumption); obtain ⟨ad460, e460, hx460_0, hx460_1⟩ := at_T42 HR0.out x5_1 p460 q460; cases e460; replace hx460_0 := (HB.out.cell (World.block_lt_of_cell? w _ hx460_0)).trans hx460_0; replace hx460_1 := (HB.out.cell (World.block_lt_of_cell? w _ hx460_1)).trans hx460_1; replace p460 := eq_true p460; replace q460 := eq_true q460; have hcz7_0 := zc BK459 0; have hcz7_1 := zc BK459 1; have hfz7_0 := blk_frozen BK459.out 0; have hfz7_1 := blk_frozen BK459.out 1; go_wp2; repeat (go_quiet (fail); try go_wp2)
         go_ret; exact ⟨by first | rfl | (simp [errW_none, errW_some] <;> rfl) | (simp [*, errW_none, errW_some] <;> rfl), zB HB⟩
       · rw [if_neg c6] at H; have c6b0 : (((rd_T42 l0 x5_1).f0) == a1_0 && (((rd_T42 l0 x5_1).f1) == a1_1)) = false := by simpa using c6
         (try (have c6b1 : decide (((rd_T42 l0 x5_1).f0) = a1_0 && (((rd_T42 l0 x5_1).f1) == a1_1)) = false := by simpa using c6)); (try (have c6b2 : (((rd_T42 l0 x5_1).f0) == a1_0 && (((rd_T42 l0 x5_1).f1) == a1_1)) = false := by simpa using c6)); (try (have c6b3 : ¬ (((rd_T42 l0 x5_1).f0) = a1_0 && (((rd_T42 l0 x5_1).f1) == a1_1)) := by simpa using c6)); clear c6; have H' := Aside0.mk H; clear H; have p460 : 0 ≤ (x5_1 : Int) := of_decide_eq_true (by first | (with_reducible assumption) | assumption); have q460 : x5_1 < (l0.length : Int) := of_decide_eq_true (by first | (with_reducible assumption) | assumption); obtain ⟨ad460, e460, hx460_0, hx460_1⟩ := at_T42 HR0.out x5_1 p460 q460; cases e460; replace hx460_0 := (HB.out.cell (World.block_lt_of_cell? w _ hx460_0)).trans hx460_0; replace hx460_1 := (HB.out.cell (World.block_lt_of_cell? w _ hx460_1)).trans hx460_1; replace p460 := eq_true p460; replace q460 := eq_true q460; have hcz8_0 := zc BK459 0; have hcz8_1 := zc BK459 1; have hfz8_0 := blk_frozen BK459.out 0; have hfz8_1 := blk_frozen BK459.out 1; go_wp2; repeat (go_quiet (fail); try go_wp2)
         go_roundg k1
         case measure => have := HK1.out; omega
         case rel => exact ⟨(wrap64 (x5_1 + 1)), zv, H', ⟨by have := HK1.out; omega⟩, ⟨zK BK459⟩, ⟨zB HB⟩⟩
     · rw [if_neg c5] at H; exact absurd H (by simp)
   · rw [if_neg c4] at H; have c4b0 : decide (x5_1 < (l0.length : Int)) = false := decide_eq_false c4; clear c4; obtain rfl := Option.some.inj H; go_wp2; repeat (go_quiet (fail); try go_wp2)
     go_ret; exact ⟨by first | rfl | (simp [errW_none, errW_some] <;> rfl) | (simp [*, errW_none, errW_some] <;> rfl), zB HB⟩
end Go.Proofs.YtjmdlmogdbhdhaaDoor.P
namespace Go.Proofs.YtjmdlmogdbhdhaaDoor.P
open Go.RowKit Go.Proofs.YtjmdlmogdbhdhaaDoorW.PrintWords Go.Proofs.YtjmdlmogdbhdhaaDoorW.PrintLast Go.Proofs.YtjmdlmogdbhdhaaDoorW.PrintMore
attribute [local go_sem] max2_int min2_int max_two min_two max_three min_three max_four min_four
set_option linter.unusedVariables false
set_option linter.unusedSimpArgs false
attribute [local go_sem high] eqA42
def deliberationnet_Pairs.l0 : Nat → List (S42) → List (S42) → Int → Option (Bool)
 | 0, _, _, _ => none
 | k + 1, x0, x1, x5 => if x5 < (x0.length : Int) then (if 0 ≤ x5 then (if x5 < (x1.length : Int) then (if (!(((rd_T42 x0 x5).f0) == ((rd_T42 x1 x5).f0)) || (!(((rd_T42 x0 x5).f1) == ((rd_T42 x1 x5).f1)))) = true then (some false) else (deliberationnet_Pairs.l0 k x0 x1 (wrap64 (x5 + 1)))) else (none)) else (none)) else (some true)
def deliberationnet_Pairs.f (k : Nat) (l0 : List (S42)) (l1 : List (S42)) : Option (Bool) := if (l0.length : Int) = (l1.length : Int) then (deliberationnet_Pairs.l0 k l0 l1 0) else (some false)
set_option maxHeartbeats 8000000 in
set_option maxRecDepth 100000 in
theorem deliberationnet_Pairs.calls (k : Nat) (A0 : Option Addr) (c0 : Nat) (l0 : List (S42)) (A1 : Option Addr) (c1 : Nat) (l1 : List (S42)) (r : Bool) (w : World) (hr0 : Kd.C k42 w A0 l0.length l0) (hc0 : l0.length ≤ c0) (hr1 : Kd.C k42 w A1 l1.length l1) (hc1 : l1.length ≤ c1) (h : deliberationnet_Pairs.f k l0 l1 = some r) :
 Calls Tryd.prog 31 #[.slice A0 l0.length c0, .slice A1 l1.length c1] w fun e w' => e = .returned (.bool r) ∧ Drawn0 w w' := by
 have hu42 := Tryd.underlying42; have HR0 := Aside0.mk hr0; have HC0 := Aside0.mk hc0; clear hr0 hc0; have HR1 := Aside0.mk hr1; have HC1 := Aside0.mk hc1; clear hr1 hc1; have H : (if (l0.length : Int) = (l1.length : Int) then (deliberationnet_Pairs.l0 k l0 l1 0) else (some false)) = some r := h; clear h; by_cases c3 : (l0.length : Int) = (l1.length : Int)
 · rw [if_pos c3] at H; have c3b0 : ((l0.length : Int) == (l1.length : Int)) = true := beq_iff_eq.mpr c3; have c3b1 : ((l0.length : Int) != (l1.length : Int)) = false := bne_eq_false_iff_eq.mpr c3; have c3b2 : (l0.length == l1.length) = true := by first | simpa using c3 | (simp at c3 ⊢; omega)
   clear c3; have H' := Aside0.mk H; clear H; go_enter Tryd.func31, Tryd.ntmps31; go_wp2; repeat (go_quiet (fail); try go_wp2)
   go_loopg [5] k (fun kq v5 w' => ∃ (x5_1 : Int), v5 = .int .i64 x5_1 ∧ Aside0 (deliberationnet_Pairs.l0 kq l0 l1 x5_1 = some r) ∧ Aside0 (kq ≤ k) ∧ Drawn0 w w')
   case atStart => exact ⟨(0), zv, H', ⟨Nat.le_refl _⟩, by repeat (first | exact Drawn0.refl _ | apply Drawn0.step)⟩
   case round =>
    clear H'; try clear c1
    try clear p2
    try clear c3
    try clear c3b0
    try clear c3b1
    try clear c3b2
    obtain ⟨x5_1, rfl, HA, HK1, ⟨m1, rfl⟩⟩ := hrel; cases gk with
    | zero => exact absurd HA.out (by simp [deliberationnet_Pairs.l0])
    | succ k1 =>
     have H := HA.out; clear HA; simp only [deliberationnet_Pairs.l0] at H; by_cases c4 : x5_1 < (l0.length : Int)
     · rw [if_pos c4] at H; have c4b0 : decide (x5_1 < (l0.length : Int)) = true := decide_eq_true c4; clear c4; by_cases c5 : 0 ≤ x5_1
       · rw [if_pos c5] at H; have c5b0 : decide (0 ≤ x5_1) = true := decide_eq_true c5; clear c5; by_cases c6 : x5_1 < (l1.length : Int)
         · rw [if_pos c6] at H; have c6b0 : decide (x5_1 < (l1.length : Int)) = true := decide_eq_true c6; clear c6; by_cases c7 : (!(((rd_T42 l0 x5_1).f0) == ((rd_T42 l1 x5_1).f0)) || (!(((rd_T42 l0 x5_1).f1) == ((rd_T42 l1 x5_1).f1)))) = true
           · rw [if_pos c7] at H; have c7b0 : (!(((rd_T42 l0 x5_1).f0) == ((rd_T42 l1 x5_1).f0)) || (!(((rd_T42 l0 x5_1).f1) == ((rd_T42 l1 x5_1).f1)))) = true := c7; clear c7; obtain rfl := Option.some.inj H; have p290 : 0 ≤ (x5_1 : Int) := of_decide_eq_true (by first | (with_reducible assumption) | assumption); have q290 : x5_1 < (l0.length : Int) := of_decide_eq_true (by first | (with_reducible assumption) | assumption); obtain ⟨ad290, e290, hx290_0, hx290_1⟩ := at_T42 HR0.out x5_1 p290 q290; cases e290; replace p290 := eq_true p290; replace q290 := eq_true q290; have p291 : 0 ≤ (x5_1 : Int) := of_decide_eq_true (by first | (with_reducible assumption) | assumption); have q291 : x5_1 < (l1.length : Int) := of_decide_eq_true (by first | (with_reducible assumption) | assumption); obtain ⟨ad291, e291, hx291_0, hx291_1⟩ := at_T42 HR1.out x5_1 p291 q291; cases e291; replace p291 := eq_true p291; replace q291 := eq_true q291; go_wp2; repeat (go_quiet (fail); try go_wp2)
             go_ret; exact ⟨by first | rfl | (simp; done) | (simp [*]; done), by repeat (first | exact Drawn0.refl _ | apply Drawn0.step)⟩
           · rw [if_neg c7] at H; have c7b0 : (!(((rd_T42 l0 x5_1).f0) == ((rd_T42 l1 x5_1).f0)) || (!(((rd_T42 l0 x5_1).f1) == ((rd_T42 l1 x5_1).f1)))) = false := by simpa using c7
             clear c7; have H' := Aside0.mk H; clear H; have p290 : 0 ≤ (x5_1 : Int) := of_decide_eq_true (by first | (with_reducible assumption) | assumption); have q290 : x5_1 < (l0.length : Int) := of_decide_eq_true (by first | (with_reducible assumption) | assumption); obtain ⟨ad290, e290, hx290_0, hx290_1⟩ := at_T42 HR0.out x5_1 p290 q290; cases e290; replace p290 := eq_true p290; replace q290 := eq_true q290; have p291 : 0 ≤ (x5_1 : Int) := of_decide_eq_true (by first | (with_reducible assumption) | assumption); have q291 : x5_1 < (l1.length : Int) := of_decide_eq_true (by first | (with_reducible assumption) | assumption); obtain ⟨ad291, e291, hx291_0, hx291_1⟩ := at_T42 HR1.out x5_1 p291 q291; cases e291; replace p291 := eq_true p291; replace q291 := eq_true q291; go_wp2; repeat (go_quiet (fail); try go_wp2)
             go_roundg k1
             case measure => have := HK1.out; omega
             case rel => exact ⟨(wrap64 (x5_1 + 1)), zv, H', ⟨by have := HK1.out; omega⟩, by repeat (first | exact Drawn0.refl _ | apply Drawn0.step)⟩
         · rw [if_neg c6] at H; exact absurd H (by simp)
       · rw [if_neg c5] at H; exact absurd H (by simp)
     · rw [if_neg c4] at H; have c4b0 : decide (x5_1 < (l0.length : Int)) = false := decide_eq_false c4; clear c4; obtain rfl := Option.some.inj H; go_wp2; repeat (go_quiet (fail); try go_wp2)
       go_ret; exact ⟨by first | rfl | (simp; done) | (simp [*]; done), by repeat (first | exact Drawn0.refl _ | apply Drawn0.step)⟩
 · rw [if_neg c3] at H; have c3b0 : ((l0.length : Int) == (l1.length : Int)) = false := beq_eq_false_iff_ne.mpr c3; have c3b1 : ((l0.length : Int) != (l1.length : Int)) = true := bne_iff_ne.mpr c3; have c3b2 : (l0.length == l1.length) = false := by first | simpa using c3 | (simp at c3 ⊢; omega)
   obtain rfl := Option.some.inj H; go_enter Tryd.func31, Tryd.ntmps31; go_wp2; repeat (go_quiet (fail); try go_wp2)
   go_ret; exact ⟨by first | rfl | (simp; done) | (simp [*]; done), by repeat (first | exact Drawn0.refl _ | apply Drawn0.step)⟩
end Go.Proofs.YtjmdlmogdbhdhaaDoor.P
namespace Go.Proofs.YtjmdlmogdbhdhaaDoor.P
open Go.RowKit Go.Proofs.YtjmdlmogdbhdhaaDoorW.PrintWords Go.Proofs.YtjmdlmogdbhdhaaDoorW.PrintLast Go.Proofs.YtjmdlmogdbhdhaaDoorW.PrintMore
attribute [local go_sem] max2_int min2_int max_two min_two max_three min_three max_four min_four
set_option linter.unusedVariables false
set_option linter.unusedSimpArgs false
def deliberationnet_Same.f (k : Nat) (a0_0 : Int) (l0_1 : List (S42)) (a1_0 : Int) (l1_1 : List (S42)) : Option (Bool) := if a0_0 = a1_0 then ((deliberationnet_Pairs.f k l0_1 l1_1).bind fun t570 => (some t570)) else (some false)
set_option maxHeartbeats 8000000 in
set_option maxRecDepth 100000 in
theorem deliberationnet_Same.calls (k : Nat) (a0_0 : Int) (A0_1 : Option Addr) (c0_1 : Nat) (l0_1 : List (S42)) (a1_0 : Int) (A1_1 : Option Addr) (c1_1 : Nat) (l1_1 : List (S42)) (r : Bool) (w : World) (hr0_1 : Kd.C k42 w A0_1 l0_1.length l0_1) (hc0_1 : l0_1.length ≤ c0_1) (hr1_1 : Kd.C k42 w A1_1 l1_1.length l1_1) (hc1_1 : l1_1.length ≤ c1_1) (h : deliberationnet_Same.f k a0_0 l0_1 a1_0 l1_1 = some r) :
 Calls Tryd.prog 22 #[.agg #[.int .i64 a0_0, .slice A0_1 l0_1.length c0_1], .agg #[.int .i64 a1_0, .slice A1_1 l1_1.length c1_1]] w fun e w' => e = .returned (.bool r) ∧ Below w.heap.size w w' := by
 have hu24 := Tryd.underlying24; have HR0_1 := Aside0.mk hr0_1; have HC0_1 := Aside0.mk hc0_1; clear hr0_1 hc0_1; have HR1_1 := Aside0.mk hr1_1; have HC1_1 := Aside0.mk hc1_1; clear hr1_1 hc1_1; have HB := Aside0.mk (Below.refl w.heap.size w); have H : (if a0_0 = a1_0 then ((deliberationnet_Pairs.f k l0_1 l1_1).bind fun t570 => (some t570)) else (some false)) = some r := h; clear h; by_cases c3 : a0_0 = a1_0
 · rw [if_pos c3] at H; have c3b0 : (a0_0 == a1_0) = true := beq_iff_eq.mpr c3; have c3b1 : (a0_0 != a1_0) = false := bne_eq_false_iff_eq.mpr c3; clear c3; replace H := Option.bind_eq_some_iff.mp H; obtain ⟨t570, A40, H⟩ := H; replace H : (some t570) = some r := H; have A4 := Aside0.mk A40; clear A40; obtain rfl := Option.some.inj H; go_enter Tryd.func22, Tryd.ntmps22; go_wp2_with (first | ((with_reducible refine gate_dst (N := 2) rfl ?_); refine zX (N := 2) (cs := #[.int .i64 a0_0, .slice A0_1 l0_1.length c0_1]) (t := 24) ?_; intro gb568 hg w5 hbox hb; have BK568 := Aside0.mk (hbox); have GW568 := Aside0.mk (zW hg HB); have GE568 := Aside0.mk (zW hg HB); replace HB := Aside0.mk (below_step (zB HB) hb); clear hb hbox hg) | ((with_reducible refine gate_dst (N := 3) rfl ?_); refine zX (N := 3) (cs := #[.int .i64 a1_0, .slice A1_1 l1_1.length c1_1]) (t := 24) ?_; intro gb569 hg w6 hbox hb; have BK569 := Aside0.mk (hbox); have GW569 := Aside0.mk (zW hg HB); have GE569 := Aside0.mk (zW hg HB); have NB568_569 := Aside0.mk (zNl hg BK568); have NB569_568 := Aside0.mk (zNr hg BK568); replace BK568 := Aside0.mk (zKb BK568 hb); replace HB := Aside0.mk (below_step (zB HB) hb); clear hb hbox hg; have hnb7 := NB568_569.out; have hnc7 := NB569_568.out; have hcz8_0 := zc BK568 0; have hcz8_1 := zc BK568 1; have hfz8_0 := blk_frozen BK568.out 0; have hfz8_1 := blk_frozen BK568.out 1; have hcz9_0 := zc BK569 0; have hcz9_1 := zc BK569 1; have hfz9_0 := blk_frozen BK569.out 0; have hfz9_1 := blk_frozen BK569.out 1) | (go_at_call 31; (with_reducible refine (deliberationnet_Pairs.calls k _ _ l0_1 _ _ l1_1 t570 _ ?side1 ?side2 ?side3 ?side4 A4.out).mono ?_); (case side1 => exact zCb HR0_1 HB); (case side2 => exact HC0_1.out); (case side3 => exact zCb HR1_1 HB); (case side4 => exact HC1_1.out); rintro e w' ⟨rfl, ⟨nd, rfl⟩⟩)); go_ret; exact ⟨by first | rfl | (simp [errW_none, errW_some] <;> rfl) | (simp [*, errW_none, errW_some] <;> rfl), zB HB⟩
 · rw [if_neg c3] at H; have c3b0 : (a0_0 == a1_0) = false := beq_eq_false_iff_ne.mpr c3; have c3b1 : (a0_0 != a1_0) = true := bne_iff_ne.mpr c3; obtain rfl := Option.some.inj H; go_enter Tryd.func22, Tryd.ntmps22; go_wp2_with (first | ((with_reducible refine gate_dst (N := 2) rfl ?_); refine zX (N := 2) (cs := #[.int .i64 a0_0, .slice A0_1 l0_1.length c0_1]) (t := 24) ?_; intro gb568 hg w10 hbox hb; have BK568 := Aside0.mk (hbox); have GW568 := Aside0.mk (zW hg HB); have GE568 := Aside0.mk (zW hg HB); replace HB := Aside0.mk (below_step (zB HB) hb); clear hb hbox hg) | ((with_reducible refine gate_dst (N := 3) rfl ?_); refine zX (N := 3) (cs := #[.int .i64 a1_0, .slice A1_1 l1_1.length c1_1]) (t := 24) ?_; intro gb569 hg w11 hbox hb; have BK569 := Aside0.mk (hbox); have GW569 := Aside0.mk (zW hg HB); have GE569 := Aside0.mk (zW hg HB); have NB568_569 := Aside0.mk (zNl hg BK568); have NB569_568 := Aside0.mk (zNr hg BK568); replace BK568 := Aside0.mk (zKb BK568 hb); replace HB := Aside0.mk (below_step (zB HB) hb); clear hb hbox hg; have hnb12 := NB568_569.out; have hnc12 := NB569_568.out; have hcz13_0 := zc BK568 0; have hcz13_1 := zc BK568 1; have hfz13_0 := blk_frozen BK568.out 0; have hfz13_1 := blk_frozen BK568.out 1; have hcz14_0 := zc BK569 0; have hcz14_1 := zc BK569 1; have hfz14_0 := blk_frozen BK569.out 0; have hfz14_1 := blk_frozen BK569.out 1)); go_ret; exact ⟨by first | rfl | (simp [errW_none, errW_some] <;> rfl) | (simp [*, errW_none, errW_some] <;> rfl), zB HB⟩
end Go.Proofs.YtjmdlmogdbhdhaaDoor.P
