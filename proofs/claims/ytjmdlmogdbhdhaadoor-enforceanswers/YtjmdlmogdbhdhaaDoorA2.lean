import Derived.Test.YtjmdlmogdbhdhaaDoorProg
import Derived.Below
import Derived.Deep.Draws
import Derived.Deep.AppendLies
import Derived.Maps.AppendAt
import Derived.OwnWalk
import Derived.Laws.BytesArg
import Derived.Laws.MakeOwn
import Derived.Laws.OwnMore
import Derived.Deep.OwnRows
import Derived.Tactics
import Derived.Lib.ConvBytes
import Derived.Laws.Slices
import Derived.WalkKit
import Derived.KernelRfl
import Derived.RowKit3
import Derived.Deep.LoopGhost
import Derived.Deep.QuietTactic
import Derived.BigQuiet
import Derived.WideLaws
import Derived.Deep.DeepCutAuto
import Derived.Deep.CutBlock
import Derived.Deep.RegionHeld3
import Derived.Laws.Rows
import Derived.Lib.AppendStr
import Derived.ArgAppend
import Derived.Laws.IdiomCopy
import Derived.OrdersHeld
import Derived.Laws.BitsLemmas
import Derived.RowKit
import Derived.Laws.Bits64b
import Derived.Lib.TrailingZeros
import Derived.Test.YtjmdlmogdbhdhaaDoorRows
import Derived.ChangeSame
import Derived.ChangeVars
import Derived.JoinedOf
import Derived.ProofKit
import Derived.OpenShut
import Derived.ChangeOld
import Derived.SizedLaws
import Derived.LaidLaws
import Derived.Shelf.SlSortCmp.NoneTotal
import Derived.Maps.RangeRun
import Derived.Deep.DeepMust
import Derived.RegionTactic
import Derived.Test.YtjmdlmogdbhdhaaDoorA1
namespace Go.Proofs.YtjmdlmogdbhdhaaDoor.P
set_option linter.unusedVariables false
open Go.RowKit Go.Proofs.YtjmdlmogdbhdhaaDoorW.PrintWords Go.Proofs.YtjmdlmogdbhdhaaDoorW.PrintLast Go.Proofs.YtjmdlmogdbhdhaaDoorW.PrintMore
theorem zK {P Q : Prop} (h : ag P) (g : P → Q := by intro h_; (with_reducible repeat (first | refine GU ?_ _ | refine bO ?_ | refine je ?_ _)); exact h_) : Q := g h.out
theorem zR {P Q : Prop} (h : ag P) (g : P → Q := by intro h_; (with_reducible repeat (first | apply Kd.NW | apply Kd.VJ | apply Kd.nL)); exact h_) : Q := g h.out
theorem zS {P Q : Prop} (h : ag P) (g : P → Q := by intro h_; (with_reducible repeat (first | apply Kd.VN | apply Kd.VO | apply Kd.Bi)); exact h_) : Q := g h.out
theorem zV {P Q : Prop} (h : ag P) (g : P → Q := by intro h_; (with_reducible repeat (first | apply Kd.VR | apply Kd.VS | apply Kd.zD)); exact h_) : Q := g h.out
theorem zC {P Q : Prop} (h : ag P) (g : P → Q := by intro h_; repeat (first | (with_reducible exact h_) | (with_reducible refine Kd.dY ?_ _) | (with_reducible refine Kd.dZ ?_ _) | (with_reducible refine Kd.fB ?_) | exact h_)) : Q := g h.out
theorem zB {P Q : Prop} (h : ag P) (g : P → Q := by intro h_; repeat (first | (with_reducible first | exact h_ | apply bB | apply bH | apply bn | refine bG ?_ (ag.out (by assumption))) | exact h_)) : Q := g h.out
theorem zk {P Q : Prop} (h : P) (g : P → Q := by intro h_; (with_reducible repeat (first | refine GU ?_ _ | refine bO ?_ | refine je ?_ _)); exact h_) : Q := g h
theorem jF {P Q : Prop} (h : P) (g : P → Q := by intro h_; (with_reducible repeat (first | apply Kd.NW | apply Kd.VJ | apply Kd.nL)); exact h_) : Q := g h
theorem sM {P Q : Prop} (h : P) (g : P → Q := by intro h_; (with_reducible repeat (first | apply Kd.VN | apply Kd.VO | apply Kd.Bi)); exact h_) : Q := g h
theorem zkV {P Q : Prop} (h : P) (g : P → Q := by intro h_; (with_reducible repeat (first | apply Kd.VR | apply Kd.VS | apply Kd.zD)); exact h_) : Q := g h
theorem jB {α : Type} {d : Kd α} {w W : World} {A : Option Addr} {n : Nat} {xs : List α} {Q : Prop} (h : ag (d.C w A n xs)) (hb : ag (Below w.heap.size w W)) (g : d.C W A n xs → Q := by intro h_; repeat (first | exact h_ | (with_reducible refine Kd.dY ?_ _) | (with_reducible refine Kd.dZ ?_ _) | (with_reducible refine Kd.fB ?_))) : Q := g (Kd.bu h.out hb.out)
theorem zW {P : Prop} {w W : World} {g : Nat} (hg : g = W.heap.size) (h : ag P) (e : P → Below w.heap.size w W := by intro h_; exact zB ⟨h_⟩) : w.heap.size ≤ g := by rw [hg]; exact aJ (e h.out)
theorem lZ {W V : World} {g h : Nat} {o : Obj} (hg : h = W.heap.size) (b : ag (V.heap[g]? = some o)) (e : V.heap[g]? = some o → W.heap[g]? = some o := by intro h_; exact zK ⟨h_⟩) : g ≠ h := by rw [hg]; exact Nat.ne_of_lt (uR (e b.out))
theorem l5 {W V : World} {g h : Nat} {o : Obj} (hg : h = W.heap.size) (b : ag (V.heap[g]? = some o)) (e : V.heap[g]? = some o → W.heap[g]? = some o := by intro h_; exact zK ⟨h_⟩) : h ≠ g := by rw [hg]; exact Nat.ne_of_gt (uR (e b.out))
theorem dn {V W w1 : World} {g : Nat} {o : Obj} (b : ag (V.heap[g]? = some o)) (hb : Below W.heap.size W w1) (e : V.heap[g]? = some o → W.heap[g]? = some o := by intro h_; exact zK ⟨h_⟩) : w1.heap[g]? = some o := fo (e b.out) hb
theorem zc {w : World} {g : Nat} {t : TypeId} {cs : Array Value} {v : Value} (h : ag (w.heap[g]? = some (.cells cs t (0, 0)))) (i : Nat) (e : cs[i]? = some v := by rfl) : w.cell? ⟨g, i, none⟩ = some v := (ai h.out i).trans e
theorem zv {P : Prop} (h : P := by first | rfl | (simp; done) | (simp [*]; done)) : P := h
theorem zA {p : Prop} (h : p) : ag p := ⟨h⟩
theorem zo {p : Prop} [Decidable p] (h : decide p = true := by first | (with_reducible assumption) | assumption) : p := of_decide_eq_true h
theorem ze {P : Prop} (h : P := by first | rfl | (simp [jf, jg] <;> rfl) | (simp [*, jf, jg] <;> rfl)) : P := h
theorem zx {w W : World} {p : Addr} {v : Value} (h : ag (Below w.heap.size w W)) (k : w.cell? p = some v) : W.cell? p = some v := (h.out.cell (World.block_lt_of_cell? w _ k)).trans k
theorem iG {w : World} {g : Nat} {t : TypeId} {a b : Value} (h : ag (w.heap[g]? = some (.cells #[a, b] t (0, 0)))) : w.cell? ⟨g, 0, none⟩ = some a ∧ w.cell? ⟨g, 1, none⟩ = some b ∧ w.frozen? ⟨g, 0, none⟩ = false ∧ w.frozen? ⟨g, 1, none⟩ = false := ⟨zc h 0, zc h 1, bU h.out 0, bU h.out 1⟩
theorem nG {w : World} {g : Nat} {t : TypeId} {a b c : Value} (h : ag (w.heap[g]? = some (.cells #[a, b, c] t (0, 0)))) : w.cell? ⟨g, 0, none⟩ = some a ∧ w.cell? ⟨g, 1, none⟩ = some b ∧ w.cell? ⟨g, 2, none⟩ = some c ∧ w.frozen? ⟨g, 0, none⟩ = false ∧ w.frozen? ⟨g, 1, none⟩ = false ∧ w.frozen? ⟨g, 2, none⟩ = false := ⟨zc h 0, zc h 1, zc h 2, bU h.out 0, bU h.out 1, bU h.out 2⟩
theorem Ab {P : Prop} (h : P := by first | exact Kd.wJ _ _ _ _ _ | exact Kd.amX _ _ _ _ _ | exact Kd.Kj _ _ _ _ _ | exact Kd.amQ _ _ _ _ _ | exact Kd.amR _ _ _ _ _ | exact Kd.wJ _ _ _ 0 _) : P := h
theorem Cc {P : Prop} (h : P := by (try simp only [List.map_toArray, List.map_cons, List.map_nil]); first | done | rfl | (simp only [List.length_drop, List.length_take]; rfl)) : P := h
theorem iA {w : World} {g : Nat} {t : TypeId} {cs : Array Value} {p : Addr} {u : Value} {Q : Prop} (ne : g ≠ p.block) (h : w.heap[g]? = some (.cells cs t (0, 0))) (e : (w.setCell p u).heap[g]? = some (.cells cs t (0, 0)) → Q := by intro h_; (with_reducible repeat (first | refine GU ?_ _ | refine bO ?_ | refine je ?_ _)); exact h_) : Q := e (wP h ne u)
theorem zE {α β : Type} {o : Option α} {f : α → Option β} {r : β} (h : o.bind f = some r) : ∃ a, ag (o = some a) ∧ f a = some r := by obtain ⟨a, h1, h2⟩ := Option.bind_eq_some_iff.mp h; exact ⟨a, ⟨h1⟩, h2⟩
theorem Ce {v : Value} {n : Nat} (h : ∃ A c, v = .slice A n c) : ∃ A c, Value.slice A n c = v := by obtain ⟨A, c, e⟩ := h; exact ⟨A, c, e.symm⟩
section
variable {P : Program} {ops : Array Oper} {rest : List Oper} {Q : Exit → Act → World → Prop} {md : Region.Mode} {S : World → Prop} {ds : List Nat} {T : Bool × List (List Nat × List Nat)} {B : List Nat}
theorem zG {oi : Oper} {a : Act} {w : World} (N : Option Tmp) (hd : oi.dst = N) {f : FuncId} {fn : Func} {ax : Array Operand} {ts : Array TypeId} (hf : P.funcs[f]? = some fn) (args : Array Value) (h : Calls P f args w fun e w' => ∃ v, e = .returned v ∧ wpList P ops Q rest (a.put N v) w') (hg : oi.guard = none := by rfl) (hname : (fn.name == "runtime.NumGoroutine") = false := by kernel_rfl) (hb : fn.body.isSome = true := by rfl) (hop : oi.op = .call { callee := .value (.func f), args := ax, argTypes := ts } := by rfl) (hargs : ax.map a.eval = args := by (try simp only [List.map_toArray, List.map_cons, List.map_nil]); first | done | rfl | (simp only [List.length_drop, List.length_take]; rfl)) : wpList P ops Q (oi :: rest) a w := aiC N hd hg hf hname hb args hop hargs h
theorem zX {o : Oper} {a : Act} {W : World} {N : Tmp} {cs : Array Value} {t : TypeId} (h : ∀ g, g = W.heap.size → ∀ w1, w1.heap[g]? = some (.cells cs t (0, 0)) → Below W.heap.size W w1 → wpList P ops Q rest (a.put o.dst (.pointer (some ⟨g, 0, none⟩))) w1) (hd : o.dst = some N := by rfl) (hg : o.guard = none := by rfl) (hr : (execOp a.eval o).run P W = .ok (.value (.pointer (some ⟨W.heap.size, 0, none⟩))) (W.alloc (.cells cs t (0, 0))) := by first | (go_simp; done) | (go_simp; rfl)) : wpList P ops Q (o :: rest) a W := Yt hg hd hr h
theorem zp {n : Tmp} {oi : Oper} {v : Value} {fuel : Nat} {l l' : Array Bool} {a a' : Act} {w : World} (i : Nat) (h : bW P md ops Q S ds fuel l' a' w) (HT : ag (oO md ops = T) := by assumption) (hl : l.setIfInBounds i true = l' := by simp only [List.setIfInBounds_toArray, List.set_cons_zero, List.set_cons_succ]; rfl) (hi : ops[i]? = some oi := by rfl) (hN : oi.dst = some n := by rfl) (hc : adM T l.toList l'.toList i = true := by kernel_rfl) (hQ : ∀ c a w, Q (.panic c) (a.put oi.dst v) w → Q (.panic c) a w := by exact fun _ _ _ h => h) (hy : Yields P ops oi v a := by exact Or.inl ⟨by rfl, by intro w'; go_simp; with_reducible rfl⟩) (ha : a.put (some n) v = a' := by simp only [Act.put, List.setIfInBounds_toArray, List.set_cons_zero, List.set_cons_succ, nE, qJ]; rfl) : bW P md ops Q S ds (fuel + 1) l a w := ZV l' hi hN (aac HT.out hc) hQ hy ha h
theorem zq {n : Tmp} {oi : Oper} {fuel : Nat} {l l' : Array Bool} {a a' : Act} {w : World} (i : Nat) (h : bW P md ops Q S ds fuel l' a' w) (HT : ag (oO md ops = T) := by assumption) (hl : l.setIfInBounds i true = l' := by simp only [List.setIfInBounds_toArray, List.set_cons_zero, List.set_cons_succ]; rfl) (hi : ops[i]? = some oi := by rfl) (hN : oi.dst = some n := by rfl) (hc : adM T l.toList l'.toList i = true := by kernel_rfl) (hQ : ∀ c a w, Q (.panic c) (a.put oi.dst undef) w → Q (.panic c) a w := by exact fun _ _ _ h => h) (hy : Yields P ops oi undef a := by exact Or.inr ⟨by rfl, rfl⟩) (ha : a.put (some n) undef = a' := by simp only [Act.put, List.setIfInBounds_toArray, List.set_cons_zero, List.set_cons_succ, nE, qJ]; rfl) : bW P md ops Q S ds (fuel + 1) l a w := ZV l' hi hN (aac HT.out hc) hQ hy ha h
theorem zt {n : Tmp} {oi : Oper} {v : Value} {fuel : Nat} {l l' : Array Bool} {a a' : Act} {w : World} (i : Nat) (h : bW P md ops Q S ds fuel l' a' w) (HT : ag (oO md ops = T) := by assumption) (HW : ag (lD T.2 B = true) := by assumption) (hl : l.setIfInBounds i true = l' := by simp only [List.setIfInBounds_toArray, List.set_cons_zero, List.set_cons_succ]; rfl) (hi : ops[i]? = some oi := by rfl) (hN : oi.dst = some n := by rfl) (hc : aaf T B ds l.toList l'.toList i = true := by kernel_rfl) (hQ : ∀ c a w, Q (.panic c) (a.put oi.dst v) w → Q (.panic c) a w := by exact fun _ _ _ h => h) (hS : S w := by assumption) (hy : YieldsIf P ops S oi v a := by exact Or.inl ⟨by rfl, by intro w' EW; (repeat (rcases EW with ⟨_, EW⟩)); go_simp; with_reducible rfl⟩) (ha : a.put (some n) v = a' := by simp only [Act.put, List.setIfInBounds_toArray, List.set_cons_zero, List.set_cons_succ, nE, qJ]; rfl) : bW P md ops Q S ds (fuel + 1) l a w := Qb l' hi hN (aag HT.out HW.out hc) hQ hy hS ha h
theorem Mf {n : Tmp} {oi : Oper} {v : Value} {fuel : Nat} {l l' : Array Bool} {a a' : Act} {w : World} (i : Nat) (h : bW P md ops Q S ds fuel l' a' w) (hl : l.setIfInBounds i true = l' := by simp only [List.setIfInBounds_toArray, List.set_cons_zero, List.set_cons_succ]; rfl) (hi : ops[i]? = some oi := by rfl) (hN : oi.dst = some n := by rfl) (hc : ZU md ops l l' i = true := by kernel_rfl) (hQ : ∀ c a w, Q (.panic c) (a.put oi.dst v) w → Q (.panic c) a w := by exact fun _ _ _ h => h) (hy : Yields P ops oi v a := by exact Or.inl ⟨by rfl, by intro w'; go_simp; with_reducible rfl⟩) (ha : a.put (some n) v = a' := by simp only [Act.put, List.setIfInBounds_toArray, List.set_cons_zero, List.set_cons_succ, nE, qJ]; rfl) : bW P md ops Q S ds (fuel + 1) l a w := ZV l' hi hN hc hQ hy ha h
theorem YC {n : Tmp} {oi : Oper} {v : Value} {fuel : Nat} {l l' : Array Bool} {a a' : Act} {w : World} (i : Nat) (h : bW P md ops Q S ds fuel l' a' w) (hl : l.setIfInBounds i true = l' := by simp only [List.setIfInBounds_toArray, List.set_cons_zero, List.set_cons_succ]; rfl) (hi : ops[i]? = some oi := by rfl) (hN : oi.dst = some n := by rfl) (hc : takeB md ops ds l l' i = true := by kernel_rfl) (hQ : ∀ c a w, Q (.panic c) (a.put oi.dst v) w → Q (.panic c) a w := by exact fun _ _ _ h => h) (hS : S w := by assumption) (hy : YieldsIf P ops S oi v a := by exact Or.inl ⟨by rfl, by intro w' EW; (repeat (rcases EW with ⟨_, EW⟩)); go_simp; with_reducible rfl⟩) (ha : a.put (some n) v = a' := by simp only [Act.put, List.setIfInBounds_toArray, List.set_cons_zero, List.set_cons_succ, nE, qJ]; rfl) : bW P md ops Q S ds (fuel + 1) l a w := Qb l' hi hN hc hQ hy hS ha h
theorem wU {N : Option Tmp} {oi : Oper} {fuel : Nat} {l l' : Array Bool} {a : Act} {w : World} (i : Nat) (h : ∀ K : Act → World → Prop, Shut (∀ a' w', S w' → (S w' → bW P md ops Q S ds fuel l' a' w') → K a' w') → if Region.wanted oi (yielded ops a.tmps) = true then Oper.wp P oi a w K Q else K (a.put N undef) w) (HT : ag (oO md ops = T) := by assumption) (hl : l.setIfInBounds i true = l' := by simp only [List.setIfInBounds_toArray, List.set_cons_zero, List.set_cons_succ]; rfl) (hi : ops[i]? = some oi := by rfl) (hN : oi.dst = N := by rfl) (hc : (CP T.2 l.toList == [i] && l.toList.set i true == l'.toList) = true := by kernel_rfl) (hd : i ∉ ds := by decide) : bW P md ops Q S ds (fuel + 1) l a w := N8 l' hi hN (Od HT.out hc) hd h
theorem EJ {id n : Nat} {l : Array Bool} {a : Act} {w : World} (hT : oO .any ops = T) (hB : lD T.2 B = true) (hS : S w.drew) (h : S w.drew → ag (oO .any ops = T) → ag (lD T.2 B = true) → bW P .any ops Q S ds n l a w.drew) (hm : P.follows .mixedOrders = true := by kernel_rfl) (hn : ops.size = n := by rfl) (hl : (List.replicate n false).toArray = l := by simp only [List.replicate_succ, List.replicate_zero]; rfl) : (Code.region id ops true).wp P Q a w := yc l hm hn (by rw [← hl]; apply Array.ext'; simp) hS (fun hH => z8 hT hB (h hH))
theorem qp {fuel : Nat} {l : Array Bool} {a a' : Act} {w : World} (n : Tmp) {v : Value} (h : bW P md ops Q S ds fuel l a' w) (ha : Act.put a (some n) v = a' := by simp only [Act.put, List.setIfInBounds_toArray, List.set_cons_zero, List.set_cons_succ, nE, qJ]; rfl) : bW P md ops Q S ds fuel l (Act.put a (some n) v) w := ZW ha h
theorem Jm {fuel : Nat} {l : Array Bool} {a a' : Act} {w : World} (h : bW P md ops Q S ds fuel l a' w) (ha : a = a' := by first | (simp only [G5, Act.put, List.setIfInBounds_toArray, List.set_cons_zero, List.set_cons_succ]; done) | (simp only [G5, Act.put, List.setIfInBounds_toArray, List.set_cons_zero, List.set_cons_succ]; rfl)) : bW P md ops Q S ds fuel l a w := ZW ha h
theorem ZC {fuel : Nat} {l : Array Bool} {a a' : Act} {w : World} (h : bW P md ops Q S ds fuel l a' w) (ha : a = a' := by simp only [G5, Act.put, List.setIfInBounds_toArray, List.set_cons_zero, List.set_cons_succ]; rfl) : bW P md ops Q S ds fuel l a w := ZW ha h
end
end Go.Proofs.YtjmdlmogdbhdhaaDoor.P
namespace Go.Proofs.YtjmdlmogdbhdhaaDoor.P
open Go.RowKit Go.Proofs.YtjmdlmogdbhdhaaDoorW.PrintWords Go.Proofs.YtjmdlmogdbhdhaaDoorW.PrintLast Go.Proofs.YtjmdlmogdbhdhaaDoorW.PrintMore
attribute [local go_sem] iI iJ jP jQ gH gI iK iL
set_option linter.unusedVariables false
set_option linter.unusedSimpArgs false
set_option maxHeartbeats 8000000
set_option maxRecDepth 100000
def amY : Option Int → Value
 | none => .nilIface
 | some c => .iface 0 (.int .i64 c)
theorem jf : amY none = .nilIface := rfl
theorem jg (c : Int) : amY (some c) = .iface 0 (.int .i64 c) := rfl
theorem info3 : (Tryd.prog.info? 3).map (fun i => (i.zero, i.size, i.bytes)) = some (some (.int .i64 0), 1, 8) := by kernel_rfl
theorem Kl : (Tryd.prog.info? 22).map (fun i => (i.zero, i.size, i.bytes)) = some (some (.slice none 0 0), 1, 24) := by kernel_rfl
theorem nA : (Tryd.prog.info? 42).map (fun i => (i.zero, i.size, i.bytes)) = some (some (.agg #[(.int .i64 0), (.int .i64 0)]), 2, 16) := by kernel_rfl
theorem CR : (Tryd.prog.info? 76).map (fun i => (i.zero, i.size, i.bytes)) = some (some (.int .u64 0), 1, 8) := by kernel_rfl
structure aD where
 f0 : Int
 f1 : Int
def z42 : aD := ⟨(0 : Int), (0 : Int)⟩
def gm : Kd aD := Kd.iso (Kd.pair (Kd.int .i64) (Kd.int .i64)) (fun x : aD => (x.f0, x.f1))
theorem Km : Kd.Heap gm := Kd.ZZ _ (Kd.Yx (Kd.Kg .i64) (Kd.Kg .i64))
theorem aaj {w : World} {x : aD} {cs : List Value} (h : gm.K w x cs) : cs = [.int .i64 x.f0, .int .i64 x.f1] := by
 obtain ⟨_, _, rfl, rfl, rfl⟩ := h; exact rfl
theorem YD {w : World} {base : Nat} {ok : Nat → Prop} {x : aD} {cs : List Value} (h : gm.M w base ok x cs) : cs = [.int .i64 x.f0, .int .i64 x.f1] := by
 obtain ⟨_, _, rfl, rfl, rfl⟩ := h; exact rfl
theorem aak (w : World) (x : aD)  : gm.K w x [.int .i64 x.f0, .int .i64 x.f1] := ⟨[.int .i64 x.f0], [.int .i64 x.f1], rfl, rfl, rfl⟩
theorem mR (w : World) (base : Nat) (ok : Nat → Prop) (x : aD)  : gm.M w base ok x [.int .i64 x.f0, .int .i64 x.f1] := ⟨[.int .i64 x.f0], [.int .i64 x.f1], rfl, rfl, rfl⟩
def aa (xs : List aD) (i : Int) : aD := xs.getD i.toNat z42
theorem eG {w : World} {A : Option Addr} {n : Nat} {xs : List aD} (h : Kd.C gm w A n xs) (i : Int) (h0 : 0 ≤ i) (h1 : i < n) : ∃ ad , A = some ad ∧ w.cell? (ad.add (i.toNat * 2)) = some (.int .i64 (aa xs i).f0) ∧ w.cell? ⟨(ad.add (i.toNat * 2)).block, (ad.add (i.toNat * 2)).off + 1, none⟩ = some (.int .i64 (aa xs i).f1) := by
 obtain ⟨ad, c, e, _, hK, hc0⟩ := Kd.afR h z42 i h0 h1; have hc : ∀ j u, c[j]? = some u → w.cell? (ad.add (i.toNat * 2 + j)) = some u := hc0; obtain rfl := aaj hK; exact ⟨ad, e, hc 0 _ rfl, by rw [← Yo _ _ 1 (by omega)]; exact hc 1 _ rfl⟩
def bC (xs : List (List aD)) (i : Int) : (List aD) := xs.getD i.toNat ([] : List aD)
theorem Ec {w : World} {A : Option Addr} {n : Nat} {xs : List (List aD)} (h : Kd.C (Kd.slice 42 gm) w A n xs) (i : Int) (h0 : 0 ≤ i) (h1 : i < n) : ∃ ad A0 c0, A = some ad ∧ w.cell? (ad.add i.toNat) = some (.slice A0 (bC xs i).length c0) ∧ (bC xs i).length ≤ c0 ∧ gm.C w A0 (bC xs i).length (bC xs i) := by
 obtain ⟨ad, c, e, _, hK, hc0⟩ := Kd.afR h ([] : List aD) i h0 h1; have hc : ∀ j u, c[j]? = some u → w.cell? (ad.add (i.toNat * 1 + j)) = some u := hc0; obtain ⟨A0, c0, rfl, l0, g0⟩ := hK; exact ⟨ad, A0, c0, e, by have hq := hc 0 _ rfl; rwa [Nat.mul_one, Nat.add_zero] at hq, l0, g0⟩
def kQ (w : World) : Prop := ∀ j, j < Lib.deBruijn64tab.length → w.cell? ⟨0, j, none⟩ = some (.int .u8 (Lib.deBruijn64tab.getD j 0))
theorem kQ.now {w0 w1 : World} (h : kQ w0) (hb : Below w0.heap.size w0 w1) : kQ w1 := fun j hj => (hb.cell (World.block_lt_of_cell? w0 _ (h j hj))).trans (h j hj)
def bits_TrailingZeros64.f (a0 : Int) : Option Int := if 0 ≤ a0 ∧ a0.toNat < 2 ^ 64 then some (Lib.ctz 64 a0.toNat) else none
set_option maxHeartbeats 1000000 in
theorem tz64_core (x k idx : Nat) (w : World) (hx0 : ((x : Int) == 0) = false)
 (key : IntKind.u64.wrap (bits BinOp.and IntKind.u64 (x : Int) (IntKind.u64.wrap (-(x : Int))) * 285870213051353865) / 288230376151711744 = (idx : Int))
 (hi : idx < 64) (hk : k < 64) (hcell : w.cell? ⟨0, idx, none⟩ = some (.int .u8 k)) :
 Calls Tryd.prog 78 #[.int .u64 x] w fun e w' => e = .returned (.int .i64 k) ∧ bR w w' := by
 go_enter Tryd.func78, Tryd.ntmps78; go_wp2_with (simp only [key]); go_ret; exact ⟨rfl, bR.refl _⟩
theorem tz64_zero (w : World) :
 Calls Tryd.prog 78 #[.int .u64 0] w fun e w' => e = .returned (.int .i64 64) ∧ bR w w' := by
 go_enter Tryd.func78, Tryd.ntmps78; go_wp2; go_ret; exact ⟨rfl, bR.refl _⟩
theorem tz64_key (x a : Nat) (hx : x < 18446744073709551616) (hx0 : x ≠ 0) (hlow : x &&& (18446744073709551616 - x) = a) :
 IntKind.u64.wrap (bits BinOp.and IntKind.u64 (x : Int) (IntKind.u64.wrap (-(x : Int))) * 285870213051353865) / 288230376151711744 = ((a * 285870213051353865 % 18446744073709551616 / 288230376151711744 : Nat) : Int) := by
 have e1 : IntKind.u64.wrap (-(x : Int)) = ((18446744073709551616 - x : Nat) : Int) := by rw [IntKind.wrap_u64]; omega
 rw [e1, bits_and_u64_nat x _ hx (by omega), hlow, IntKind.wrap_u64]; omega
theorem bits_TrailingZeros64.calls (a0 : Int) (r : Int) (w : World) (hT : kQ w) (h : bits_TrailingZeros64.f a0 = some r) :
 Calls Tryd.prog 78 #[.int .u64 a0] w fun e w' => e = .returned (.int .i64 r) ∧ bR w w' := by
 unfold bits_TrailingZeros64.f at h; split at h
 case isFalse => exact absurd h (by simp)
 case isTrue hc =>
 obtain ⟨h0, h1⟩ := hc; obtain ⟨x, rfl⟩ := Int.eq_ofNat_of_zero_le h0; simp only [Option.some.injEq, Int.toNat_natCast] at h h1; subst h; by_cases hx0 : x = 0
 · subst hx0; exact tz64_zero w
 · have hx : x < 18446744073709551616 := by simpa using h1
   obtain ⟨hlow, hk⟩ := Lib.lowest_bit 64 x hx0 hx; obtain ⟨hi, htab⟩ := Lib.deBruijn64_at _ hk; have hcell := hT _ hi; rw [htab] at hcell; exact tz64_core x _ _ w (by simp; omega) (tz64_key x _ hx hx0 hlow) hi hk hcell
end Go.Proofs.YtjmdlmogdbhdhaaDoor.P
namespace Go.Proofs.YtjmdlmogdbhdhaaDoor.P
open Go.ChangeShapes Go.WideShapes Go.RowKit
theorem own : ownKnob Tryd.prog.godebug = none := by kernel_rfl
theorem laidOut : laidOutB Tryd.prog = true := by kernel_rfl
theorem amZ : Tryd.prog.globalNamed "math/bits.deBruijn64tab" = some 0 := by kernel_rfl
theorem aal : (Tryd.prog.globals[0]?).map (·.type) = some 115 := by kernel_rfl
theorem aam : Tryd.prog.cellsOf 115 = 64 := by kernel_rfl
theorem cells5 : Tryd.prog.cellsOf 5 = 1 := by kernel_rfl
theorem Ql {H : Type} {enc : TypeId × Value → H} {P : Program} {w : World} {base : Nat} {sp : Nat → Bool} {held : Bool} {fuel : Nat} {t : TypeId} {k : IntKind} {c : Value} {y : DataW H × List MemPlace}
    (ht : P.underlying t = some (.int k)) (h : DataW.trod enc P w base sp held fuel t [c] = some y) : ∃ n, c = .int k n ∧ y = (.lit (.int k n), []) := by
  cases fuel with
  | zero => simp [DataW.trod] at h
  | succ fuel =>
    cases c <;> simp [DataW.trod, ht] at h
    rename_i k' n
    obtain ⟨⟨rfl, _⟩, rfl⟩ := h
    exact ⟨n, rfl, rfl⟩
theorem Qm {α β : Type} {g : α → Option β} : ∀ {l : List α} {ys : List β}, l.mapM g = some ys → ∀ (j : Nat) (x : α), l[j]? = some x → ∃ y, g x = some y ∧ ys[j]? = some y
  | [], ys, _, j, x, hx => by simp at hx
  | a :: r, ys, h, j, x, hx => by
    simp only [List.mapM_cons, Option.bind_eq_bind, Option.bind_eq_some_iff, Option.pure_def, Option.some.injEq] at h
    obtain ⟨y, hy, zs, hz, rfl⟩ := h
    cases j with
    | zero =>
      simp at hx
      subst hx
      exact ⟨y, hy, rfl⟩
    | succ j =>
      simp at hx
      obtain ⟨y', h1, h2⟩ := Qm hz j x hx
      exact ⟨y', h1, by simpa using h2⟩
def aan : List (DataW Unit) := Lib.deBruijn64tab.map fun (n : Nat) => .lit (.int .u8 (n : Int))
theorem YE : (Rows.laid_math_bits_deBruijn64tab : DataW Unit) = .agg aan := by kernel_rfl
theorem IX {W : World} (h : laidMet Tryd.prog [("math/bits.deBruijn64tab", Rows.laid_math_bits_deBruijn64tab)] W) : kQ W := by
  obtain ⟨ps, ⟨g, t, cs, fuel, p, q, hg, ht, hvar, hd, _, _⟩, _⟩ := h
  obtain rfl := Option.some.inj (amZ.symm.trans hg)
  obtain rfl := Option.some.inj (aal.symm.trans ht)
  intro j hj
  rw [World.var?_cell amZ hvar j]
  rw [YE] at hd
  cases fuel with
  | zero => simp [DataW.trod] at hd
  | succ fuel =>
    simp only [DataW.trod, Tryd.underlying115, aam, cells5] at hd
    split at hd
    · rename_i hl
      simp only [Option.map_eq_some_iff] at hd
      obtain ⟨xs, hm, hx⟩ := hd
      have hx1 : xs.map (·.1) = aan := by injection hx with h1 h2; injection h1
      have atv : j < 64 := hj
      obtain ⟨y, hy, hyj⟩ := Qm hm j j (by simp [atv])
      have hlj : j < cs.toList.length := by omega
      have e1 : (cs.toList.drop (j * 1)).take 1 = [cs.toList[j]] := by
        rw [Nat.mul_one, List.drop_eq_getElem_cons hlj]
        rfl
      rw [e1] at hy
      obtain ⟨n, hn, rfl⟩ := Ql Tryd.underlying5 hy
      have h2 : aan[j]? = some (.lit (.int .u8 n)) := by
        rw [← hx1, List.getElem?_map, hyj]
        rfl
      have h3 : aan[j]? = some (.lit (.int .u8 ((Lib.deBruijn64tab.getD j 0 : Nat) : Int))) := by
        unfold aan
        rw [List.getElem?_map, List.getElem?_eq_getElem hj]
        simp [hj]
      have h4 : n = ((Lib.deBruijn64tab.getD j 0 : Nat) : Int) := by
        have := h2.symm.trans h3
        injection this with h5
        injection h5 with h6
        injection h6
      rw [← h4, ← hn]
      simp
    · cases hd
def atw : Array Value := (Lib.deBruijn64tab.map fun (n : Nat) => Value.int .u8 (n : Int)).toArray
noncomputable def G9 (os : Os) : World :=
  { World.holding Tryd.prog os ⟨#[], #[], []⟩ with heap := (World.holding Tryd.prog os ⟨#[], #[], []⟩).heap.modify 0 fun
      | .cells _ t frozen => .cells atw t frozen
      | o => o }
theorem Qn (os : Os) (args : Array Value) : laidMet Tryd.prog [("math/bits.deBruijn64tab", Rows.laid_math_bits_deBruijn64tab)] ((G9 os).forCall (fun _ _ => 0) ⟨#[], args, []⟩).memory :=
  laidMet_of_run' 8 (by kernel_rfl) (by kernel_rfl)
end Go.Proofs.YtjmdlmogdbhdhaaDoor.P
namespace Go.Proofs.YtjmdlmogdbhdhaaDoor.P
open Go.RowKit Go.Proofs.YtjmdlmogdbhdhaaDoorW.PrintWords Go.Proofs.YtjmdlmogdbhdhaaDoorW.PrintLast Go.Proofs.YtjmdlmogdbhdhaaDoorW.PrintMore
attribute [local go_sem] iI iJ jP jQ gH gI iK iL
set_option linter.unusedVariables false
set_option linter.unusedSimpArgs false
set_option maxHeartbeats 8000000
set_option maxRecDepth 100000
theorem VU (d : Nat) (w : World) (x0 y0 : Int) (x1 y1 : Int) :
 (Op.equalIn (d + 2) 42 (.agg #[.int .i64 x0, .int .i64 x1]) (.agg #[.int .i64 y0, .int .i64 y1])).run Tryd.prog w = .ok (x0 == y0 && (x1 == y1)) w := by
 refine aiO Tryd.underlying42 (by kernel_rfl) ?_; refine aai (by rfl) (by go_simp; rfl) (by go_simp; rfl) (by go_simp) ?_; exact aah (by rfl) (by go_simp; rfl) (by go_simp; rfl) (by go_simp)
def eX.l0 : Nat → Int → List Int → Int → Int → Option (Int)
 | 0, _, _, _, _ => none
 | k + 1, x3, x6, x7, x8 => if x8 < x7 then (if 0 ≤ x8 then (if x8 < (x6.length : Int) then (if (rd x6 x8) = x3 then (eX.l0 k x3 x6 x7 (wrap64 (x8 + 1))) else (some (rd x6 x8))) else (none)) else (none)) else (some x3)
def eX.f (k : Nat) (l0 : List Int) : Option (Int) := eX.l0 k 0 l0 (l0.length : Int) 0
theorem eX.calls (k : Nat) (A0 : Option Addr) (c0 : Nat) (l0 : List Int) (r : Int) (w : World) (hr0 : Kd.C (Kd.int .i64) w A0 l0.length l0) (hc0 : l0.length ≤ c0) (h : eX.f k l0 = some r) :
 Calls Tryd.prog 53 #[.slice A0 l0.length c0] w fun e w' => e = .returned (.int .i64 r) ∧ bR w w' := by
 have uh := zA hr0; have EK := zA hc0; clear hr0 hc0; have H : (eX.l0 k 0 l0 (l0.length : Int) 0) = some r := h; clear h; have H' := zA H; clear H; go_enter Tryd.func53, Tryd.ntmps53; go_wp2; go_loopg [8] k (fun kq v8 w' => ∃ (gu : Int), v8 = .int .i64 gu ∧ ag (eX.l0 kq 0 l0 (l0.length : Int) gu = some r) ∧ ag (kq ≤ k) ∧ bR w w')
 case atStart => exact ⟨(0), zv, H', ⟨Nat.le_refl _⟩, by repeat (first | exact bR.refl _ | apply bR.step)⟩
 case round =>
  clear H'; obtain ⟨gu, rfl, HA, iU, ⟨m1, rfl⟩⟩ := hrel; cases gk with
  | zero => exact absurd HA.out (by simp [eX.l0])
  | succ k1 =>
   have H := HA.out; clear HA; simp only [eX.l0] at H; by_cases c2 : gu < (l0.length : Int)
   · rw [if_pos c2] at H; have Mg := decide_eq_true c2; clear c2; by_cases c3 : 0 ≤ gu
     · rw [if_pos c3] at H; have zF := decide_eq_true c3; clear c3; by_cases c4 : gu < (l0.length : Int)
       · rw [if_pos c4] at H; have qU := decide_eq_true c4; clear c4; by_cases c5 : (rd l0 gu) = 0
         · rw [if_pos c5] at H; have pM : ((rd l0 gu) == 0) = true := beq_iff_eq.mpr c5; have yh : ((rd l0 gu) != 0) = false := bne_eq_false_iff_eq.mpr c5; clear c5; have H' := zA H; clear H; have TH : 0 ≤ (gu : Int) := zo; have TI : gu < (l0.length : Int) := zo; obtain ⟨am0, aiP, adO⟩ := Kd.eP uh.out gu TH TI; cases aiP; replace TH := eq_true TH; replace TI := eq_true TI; go_wp2; go_roundg k1
           case measure => have := iU.out; omega
           case rel => exact ⟨(wrap64 (gu + 1)), zv, H', ⟨by have := iU.out; omega⟩, by repeat (first | exact bR.refl _ | apply bR.step)⟩
         · rw [if_neg c5] at H; have pM : ((rd l0 gu) == 0) = false := beq_eq_false_iff_ne.mpr c5; have yh : ((rd l0 gu) != 0) = true := bne_iff_ne.mpr c5; obtain rfl := Option.some.inj H; have TH : 0 ≤ (gu : Int) := zo; have TI : gu < (l0.length : Int) := zo; obtain ⟨am0, aiP, adO⟩ := Kd.eP uh.out gu TH TI; cases aiP; replace TH := eq_true TH; replace TI := eq_true TI; go_wp2; go_ret; exact ⟨by first | rfl | (simp; done) | (simp [*]; done), by repeat (first | exact bR.refl _ | apply bR.step)⟩
       · rw [if_neg c4] at H; exact absurd H (by simp)
     · rw [if_neg c3] at H; exact absurd H (by simp)
   · rw [if_neg c2] at H; have Mg := decide_eq_false c2; clear c2; obtain rfl := Option.some.inj H; go_wp2; go_ret; exact ⟨by first | rfl | (simp; done) | (simp [*]; done), by repeat (first | exact bR.refl _ | apply bR.step)⟩
def cmp_isNaN_int.f (a0 : Int) : Option (Bool) := some (a0 != a0)
theorem cmp_isNaN_int.calls (a0 : Int) (r : Bool) (w : World) (h : cmp_isNaN_int.f a0 = some r) :
 Calls Tryd.prog 80 #[.int .i64 a0] w fun e w' => e = .returned (.bool r) ∧ bR w w' := by
 have H : (some (a0 != a0)) = some r := h; clear h; obtain rfl := Option.some.inj H; go_enter Tryd.func80, Tryd.ntmps80; go_wp2; go_ret; exact ⟨by first | rfl | (simp; done) | (simp [*]; done), by repeat (first | exact bR.refl _ | apply bR.step)⟩
def cmp_Compare_int.f (a0 : Int) (a1 : Int) : Option (Int) := (cmp_isNaN_int.f a0).bind fun t105 => ((cmp_isNaN_int.f a1).bind fun t106 => (if t105 = true then (if t106 = true then (some 0) else (some (-1))) else (if t106 = true then (some 1) else (if a0 < a1 then (some (-1)) else (if a0 > a1 then (some 1) else (some 0))))))
theorem cmp_Compare_int.calls (a0 : Int) (a1 : Int) (r : Int) (w : World) (h : cmp_Compare_int.f a0 a1 = some r) :
 Calls Tryd.prog 54 #[.int .i64 a0, .int .i64 a1] w fun e w' => e = .returned (.int .i64 r) ∧ bR w w' := by
 have H : ((cmp_isNaN_int.f a0).bind fun t105 => ((cmp_isNaN_int.f a1).bind fun t106 => (if t105 = true then (if t106 = true then (some 0) else (some (-1))) else (if t106 = true then (some 1) else (if a0 < a1 then (some (-1)) else (if a0 > a1 then (some 1) else (some 0))))))) = some r := h; clear h; replace H := zE H; obtain ⟨t105, A3, H⟩ := H; (try dsimp only at H); replace H := zE H; obtain ⟨t106, A4, H⟩ := H; (try dsimp only at H); by_cases c5 : t105 = true
 · subst c5; rw [if_pos rfl] at H; by_cases c6 : t106 = true
   · subst c6; rw [if_pos rfl] at H; obtain rfl := Option.some.inj H; go_enter Tryd.func54, Tryd.ntmps54; go_wp2_with (first | ((with_reducible refine ay (f := 80) rfl ?_); refine zG (some 8) rfl Tryd.func80 #[.int .i64 a0] ?_; (with_reducible refine (cmp_isNaN_int.calls a0 true _ A3.out).mono ?_); rintro e w' ⟨rfl, ⟨nd, rfl⟩⟩; refine ⟨_, rfl, ?_⟩) | ((with_reducible refine ay (f := 80) rfl ?_); refine zG (some 10) rfl Tryd.func80 #[.int .i64 a1] ?_; (with_reducible refine (cmp_isNaN_int.calls a1 true _ A4.out).mono ?_); rintro e w' ⟨rfl, ⟨nd, rfl⟩⟩; refine ⟨_, rfl, ?_⟩)); go_ret; exact ⟨by first | rfl | (simp; done) | (simp [*]; done), by repeat (first | exact bR.refl _ | apply bR.step)⟩
   · replace c6 := Bool.eq_false_iff.mpr c6; subst c6; rw [if_neg (show ¬ (false = true) by decide)] at H; obtain rfl := Option.some.inj H; go_enter Tryd.func54, Tryd.ntmps54; go_wp2_with (first | ((with_reducible refine ay (f := 80) rfl ?_); refine zG (some 8) rfl Tryd.func80 #[.int .i64 a0] ?_; (with_reducible refine (cmp_isNaN_int.calls a0 true _ A3.out).mono ?_); rintro e w' ⟨rfl, ⟨nd, rfl⟩⟩; refine ⟨_, rfl, ?_⟩) | ((with_reducible refine ay (f := 80) rfl ?_); refine zG (some 10) rfl Tryd.func80 #[.int .i64 a1] ?_; (with_reducible refine (cmp_isNaN_int.calls a1 false _ A4.out).mono ?_); rintro e w' ⟨rfl, ⟨nd, rfl⟩⟩; refine ⟨_, rfl, ?_⟩)); go_ret; exact ⟨by first | rfl | (simp; done) | (simp [*]; done), by repeat (first | exact bR.refl _ | apply bR.step)⟩
 · replace c5 := Bool.eq_false_iff.mpr c5; subst c5; rw [if_neg (show ¬ (false = true) by decide)] at H; by_cases c7 : t106 = true
   · subst c7; rw [if_pos rfl] at H; obtain rfl := Option.some.inj H; go_enter Tryd.func54, Tryd.ntmps54; go_wp2_with (first | ((with_reducible refine ay (f := 80) rfl ?_); refine zG (some 8) rfl Tryd.func80 #[.int .i64 a0] ?_; (with_reducible refine (cmp_isNaN_int.calls a0 false _ A3.out).mono ?_); rintro e w' ⟨rfl, ⟨nd, rfl⟩⟩; refine ⟨_, rfl, ?_⟩) | ((with_reducible refine ay (f := 80) rfl ?_); refine zG (some 10) rfl Tryd.func80 #[.int .i64 a1] ?_; (with_reducible refine (cmp_isNaN_int.calls a1 true _ A4.out).mono ?_); rintro e w' ⟨rfl, ⟨nd, rfl⟩⟩; refine ⟨_, rfl, ?_⟩)); go_ret; exact ⟨by first | rfl | (simp; done) | (simp [*]; done), by repeat (first | exact bR.refl _ | apply bR.step)⟩
   · replace c7 := Bool.eq_false_iff.mpr c7; subst c7; rw [if_neg (show ¬ (false = true) by decide)] at H; by_cases c8 : a0 < a1
     · rw [if_pos c8] at H; have Oe := decide_eq_true c8; clear c8; obtain rfl := Option.some.inj H; go_enter Tryd.func54, Tryd.ntmps54; go_wp2_with (first | ((with_reducible refine ay (f := 80) rfl ?_); refine zG (some 8) rfl Tryd.func80 #[.int .i64 a0] ?_; (with_reducible refine (cmp_isNaN_int.calls a0 false _ A3.out).mono ?_); rintro e w' ⟨rfl, ⟨nd, rfl⟩⟩; refine ⟨_, rfl, ?_⟩) | ((with_reducible refine ay (f := 80) rfl ?_); refine zG (some 10) rfl Tryd.func80 #[.int .i64 a1] ?_; (with_reducible refine (cmp_isNaN_int.calls a1 false _ A4.out).mono ?_); rintro e w' ⟨rfl, ⟨nd, rfl⟩⟩; refine ⟨_, rfl, ?_⟩)); go_ret; exact ⟨by first | rfl | (simp; done) | (simp [*]; done), by repeat (first | exact bR.refl _ | apply bR.step)⟩
     · rw [if_neg c8] at H; have Oe := decide_eq_false c8; clear c8; by_cases c9 : a0 > a1
       · rw [if_pos c9] at H; have EX := decide_eq_true c9; clear c9; obtain rfl := Option.some.inj H; go_enter Tryd.func54, Tryd.ntmps54; go_wp2_with (first | ((with_reducible refine ay (f := 80) rfl ?_); refine zG (some 8) rfl Tryd.func80 #[.int .i64 a0] ?_; (with_reducible refine (cmp_isNaN_int.calls a0 false _ A3.out).mono ?_); rintro e w' ⟨rfl, ⟨nd, rfl⟩⟩; refine ⟨_, rfl, ?_⟩) | ((with_reducible refine ay (f := 80) rfl ?_); refine zG (some 10) rfl Tryd.func80 #[.int .i64 a1] ?_; (with_reducible refine (cmp_isNaN_int.calls a1 false _ A4.out).mono ?_); rintro e w' ⟨rfl, ⟨nd, rfl⟩⟩; refine ⟨_, rfl, ?_⟩)); go_ret; exact ⟨by first | rfl | (simp; done) | (simp [*]; done), by repeat (first | exact bR.refl _ | apply bR.step)⟩
       · rw [if_neg c9] at H; have EX := decide_eq_false c9; clear c9; obtain rfl := Option.some.inj H; go_enter Tryd.func54, Tryd.ntmps54; go_wp2_with (first | ((with_reducible refine ay (f := 80) rfl ?_); refine zG (some 8) rfl Tryd.func80 #[.int .i64 a0] ?_; (with_reducible refine (cmp_isNaN_int.calls a0 false _ A3.out).mono ?_); rintro e w' ⟨rfl, ⟨nd, rfl⟩⟩; refine ⟨_, rfl, ?_⟩) | ((with_reducible refine ay (f := 80) rfl ?_); refine zG (some 10) rfl Tryd.func80 #[.int .i64 a1] ?_; (with_reducible refine (cmp_isNaN_int.calls a1 false _ A4.out).mono ?_); rintro e w' ⟨rfl, ⟨nd, rfl⟩⟩; refine ⟨_, rfl, ?_⟩)); go_ret; exact ⟨by first | rfl | (simp; done) | (simp [*]; done), by repeat (first | exact bR.refl _ | apply bR.step)⟩
def gL.f (k : Nat) (au : Int) (sV : Int) (cB : Int) (dx : Int) : Option (Int) := (cmp_Compare_int.f au cB).bind fun t109 => ((cmp_Compare_int.f sV dx).bind fun t110 => ((eX.f k (([t109, t110] : List Int))).bind fun t114 => (some t114)))
def gL.T1 : Bool × List (List Nat × List Nat) := (true, [([], []), ([0], [0]), ([], []), ([2], [2]), ([1, 3], [1, 3]), ([], []), ([5], [5]), ([], []), ([7], [7]), ([6, 8, 4], [6, 8]), ([4, 9], [4, 9]), ([10, 9], [10]), ([11, 11, 0, 1, 2, 3, 4, 5, 6, 7, 8, 9, 10, 11], [11])])
def gL.B1 : List Nat := [0, 1, 0, 4, 15, 0, 32, 0, 128, 511, 1023, 2047, 4095]
theorem gL.Kn : oO .any (opsOf Tryd.f73 1) = gL.T1 := by kernel_rfl
theorem gL.CU : lD gL.T1.2 gL.B1 = true := by kernel_rfl
theorem gL.calls (k : Nat) (au : Int) (sV : Int) (cB : Int) (dx : Int) (r : Int) (w : World) (h : gL.f k au sV cB dx = some r) :
 Calls Tryd.prog 73 #[.agg #[.int .i64 au, .int .i64 sV], .agg #[.int .i64 cB, .int .i64 dx]] w fun e w' => e = .returned (.int .i64 r) ∧ Below w.heap.size w w' := by
 have wV := Tryd.underlying42; have HB := zA (Below.refl w.heap.size w); have H : ((cmp_Compare_int.f au cB).bind fun t109 => ((cmp_Compare_int.f sV dx).bind fun t110 => ((eX.f k (([t109, t110] : List Int))).bind fun t114 => (some t114)))) = some r := h; clear h; replace H := zE H; obtain ⟨t109, A3, H⟩ := H; (try dsimp only at H); replace H := zE H; obtain ⟨t110, A4, H⟩ := H; (try dsimp only at H); obtain ⟨aiQ, Qo⟩ : ∃ y_ : List Int, y_ = (([t109, t110] : List Int)) := ⟨_, rfl⟩; replace H : ((eX.f k aiQ).bind fun t114 => (some t114)) = some r := by first | (rw [Qo]; with_reducible exact H) | (have iW := (Option.bind_some _ _).symm.trans H; rw [Qo]; with_reducible exact iW) | (have iW := (Option.bind_some _ _).symm.trans H; with_reducible exact iW) | with_reducible exact H | (rw [Qo]; exact H) | exact H
 have afV := zA Qo; clear Qo; replace H := zE H; obtain ⟨t114, A5, H⟩ := H; (try dsimp only at H); obtain rfl := Option.some.inj H; go_enter Tryd.func73, Tryd.ntmps73; try go_wp2_with (first | ((with_reducible refine aH (N := 2) rfl ?_); refine zX (N := 2) (cs := #[.int .i64 au, .int .i64 sV]) (t := 42) ?_; intro afW hg w6 aG hb; have uj := zA (aG); have axG := zA (zW hg HB); have axH := zA (zW hg HB); replace HB := zA (af (zB HB) hb); clear hb aG hg) | ((with_reducible refine aH (N := 3) rfl ?_); refine zX (N := 3) (cs := #[.int .i64 cB, .int .i64 dx]) (t := 42) ?_; intro afX hg w7 aG hb; have yj := zA (aG); have axI := zA (zW hg HB); have axJ := zA (zW hg HB); have amB := zA (lZ hg uj); have amC := zA (l5 hg uj); replace uj := zA (dn uj hb); replace HB := zA (af (zB HB) hb); clear hb aG hg))
 replace uj := zA (bO uj.out); replace yj := zA (bO yj.out); replace HB := zA (bn HB.out); refine EJ (n := 13) (S := fun w' => w'.cell? ⟨afW, 0, none⟩ = some (.int .i64 au) ∧ w'.cell? ⟨afW, 1, none⟩ = some (.int .i64 sV) ∧ w'.cell? ⟨afX, 0, none⟩ = some (.int .i64 cB) ∧ w'.cell? ⟨afX, 1, none⟩ = some (.int .i64 dx)) (ds := []) gL.Kn gL.CU ⟨(ai uj.out 0).trans rfl, (ai uj.out 1).trans rfl, (ai yj.out 0).trans rfl, (ai yj.out 1).trans rfl⟩ (fun hHeld qd DY => ?_); generalize w7.drew = w8 at uj yj HB hHeld ⊢; refine zp 0 ?_; refine zp 2 ?_; refine zp 5 ?_; refine zp 7 ?_; refine zt 1 ?_; refine zt 3 ?_; refine zt 6 ?_; refine zt 8 ?_; refine wU 4 (fun K hK => ?_); refine lu Tryd.func54 (by kernel_rfl) rfl #[.int .i64 au, .int .i64 cB] (by rfl) rfl rfl Cc ?_; with_reducible refine (cmp_Compare_int.calls au cB t109 _ A3.out).mono ?_
 rintro e w' ⟨rfl, ⟨nd, rfl⟩⟩; refine ⟨_, rfl, ?_⟩; refine hK.out _ _ ⟨(ai uj.out 0).trans rfl, (ai uj.out 1).trans rfl, (ai yj.out 0).trans rfl, (ai yj.out 1).trans rfl⟩ (fun hHeld => ?_); clear hK K; refine qp 9 ?_; refine wU 9 (fun K hK => ?_); refine lu Tryd.func54 (by kernel_rfl) rfl #[.int .i64 sV, .int .i64 dx] (by rfl) rfl rfl Cc ?_; with_reducible refine (cmp_Compare_int.calls sV dx t110 _ A4.out).mono ?_
 rintro e w' ⟨rfl, ⟨nd, rfl⟩⟩; refine ⟨_, rfl, ?_⟩; refine hK.out _ _ ⟨(ai uj.out 0).trans rfl, (ai uj.out 1).trans rfl, (ai yj.out 0).trans rfl, (ai yj.out 1).trans rfl⟩ (fun hHeld => ?_); clear hK K; refine qp 14 ?_; refine wU 10 (fun K hK => ?_); refine Kd.uS (Kd.int .i64) _ 3 ?hg (N := 15) ?hd (xs := ([t109, t110] : List Int)) (inner := [.int .i64 t109, .int .i64 t110]) (ok := fun _ => True) (tX := fun _ => True) ?hr ?hp (fun _ hk => hk) trivial (Below.refl _ _) (Nat.le_refl _) (by simp) ?_; (case hd => rfl); (case hg => rfl); (case hr => first | (go_simp; done) | (go_simp; rfl)); (case hp => exact (gP.one (show Kd.M (Kd.int .i64) _ _ _ t109 [.int .i64 t109] from rfl) (gP.one (show Kd.M (Kd.int .i64) _ _ _ t110 [.int .i64 t110] from rfl) (gP.none _ _)))); intro aBk w9 yl hb Ac lS; clear Ac lS; (first | rw [← afV.out] at yl | (simp only [Int.reduceToNat] at yl; rw [← afV.out] at yl)); have aao := zA (Kd.dw yl (aJ (zB HB))); replace uj := zA (dn uj hb); replace yj := zA (dn yj hb); replace HB := zA (af (zB HB) hb); clear hb yl; obtain ⟨YF, YG, ⟨⟩⟩ := Ce (Kd.bD aao.out); refine hK.out _ _ ⟨(ai uj.out 0).trans rfl, (ai uj.out 1).trans rfl, (ai yj.out 0).trans rfl, (ai yj.out 1).trans rfl⟩ (fun hHeld => ?_); clear hK K; refine qp 15 ?_; refine wU 11 (fun K hK => ?_); refine lu Tryd.func53 (by kernel_rfl) rfl #[.slice YF aiQ.length YG] (by rfl) rfl rfl Cc ?_; with_reducible refine (eX.calls k _ _ aiQ t114 _ ?aI ?aN A5.out).mono ?_
 (case aI => repeat (first | exact (Kd.aU aao.out).2.2 | (with_reducible refine Kd.dY ?_ _) | (with_reducible refine Kd.dZ ?_ _) | (with_reducible refine Kd.fB ?_))); (case aN => exact (Kd.aU aao.out).2.1); rintro e w' ⟨rfl, ⟨nd, rfl⟩⟩; refine ⟨_, rfl, ?_⟩; refine hK.out _ _ ⟨(ai uj.out 0).trans rfl, (ai uj.out 1).trans rfl, (ai yj.out 0).trans rfl, (ai yj.out 1).trans rfl⟩ (fun hHeld => ?_); clear hK K; refine qp 16 ?_; refine zp 12 ?_; refine lK (iZ qd.out (by kernel_rfl)) ?_; try go_wp2
 go_ret; exact ⟨ze, zB HB⟩
mutual
def aX.j0 : Nat → Bool → Int → List (aD) → Option (Int)
 | 0, _, _, _ => none
 | k + 1, wK, yP, sN => if wK = true then (some 1) else (aX.l0 k sN (sN.length : Int) 0 yP sN)
def aX.l0 : Nat → List (aD) → Int → Int → Int → List (aD) → Option (Int)
 | 0, _, _, _, _, _ => none
 | k + 1, zH, Mh, Jn, yP, sN => if Jn < Mh then (if 0 ≤ Jn then (if Jn < (zH.length : Int) then (if (mn ((aa zH Jn).f0) ((aa zH Jn).f1)) < 0 then (aX.j2 k Jn zH Mh Jn true yP sN ((aa zH Jn).f0) ((aa zH Jn).f1)) else (aX.j2 k Jn zH Mh Jn (decide ((mx ((aa zH Jn).f0) ((aa zH Jn).f1)) ≥ yP)) yP sN ((aa zH Jn).f0) ((aa zH Jn).f1))) else (none)) else (none)) else (some 0)
def aX.j2 : Nat → Int → List (aD) → Int → Int → Bool → Int → List (aD) → Int → Int → Option (Int)
 | 0, _, _, _, _, _, _, _, _, _ => none
 | k + 1, x3, zH, Mh, Jn, x36, yP, sN, adP, adQ => if x36 = true then (some 1) else (if x3 > 0 then (if 0 ≤ (wrap64 (x3 - 1)) then (if (wrap64 (x3 - 1)) < (sN.length : Int) then ((gL.f k ((aa sN (wrap64 (x3 - 1))).f0) ((aa sN (wrap64 (x3 - 1))).f1) adP adQ).bind fun t119 => (if t119 ≥ 0 then (some 8) else (aX.l0 k zH Mh (wrap64 (Jn + 1)) yP sN))) else (none)) else (none)) else (aX.l0 k zH Mh (wrap64 (Jn + 1)) yP sN))
end
def aX.f (k : Nat) (au : Int) (ah : List (aD)) : Option (Int) := if au < 0 then (aX.j0 k true au ah) else (aX.j0 k (decide (au > 40)) au ah)
def aX.T8 : Bool × List (List Nat × List Nat) := (true, [([], []), ([0], [0]), ([1], [1]), ([2], [2]), ([3, 2], [2, 3]), ([2], [2]), ([5, 2], [2, 5]), ([4, 6, 2], [2, 4, 6]), ([7, 2], [2, 7]), ([2], [2]), ([8, 9, 2, 2], [2, 8, 9]), ([10, 2], [2, 10]), ([2, 11], [2, 11])])
def aX.B8 : List Nat := [0, 1, 3, 7, 15, 7, 39, 127, 255, 7, 1023, 2047, 4095]
theorem aX.aiR : oO .any (opsOf Tryd.f41 8) = aX.T8 := by kernel_rfl
theorem aX.aap : lD aX.T8.2 aX.B8 = true := by kernel_rfl
theorem aX.calls (k : Nat) (au : Int) (aZ : Option Addr) (aW : Nat) (ah : List (aD)) (r : Int) (w : World) (eY : Kd.C gm w aZ ah.length ah) (eZ : ah.length ≤ aW) (h : aX.f k au ah = some r) :
 Calls Tryd.prog 41 #[.agg #[.int .i64 au, .slice aZ ah.length aW]] w fun e w' => e = .returned (.int .i64 r) ∧ Below w.heap.size w w' := by
 have uk := Tryd.underlying24; have wV := Tryd.underlying42; have cz := zA eY; have dX := zA eZ; clear eY eZ; have HB := zA (Below.refl w.heap.size w); have H : (if au < 0 then (aX.j0 k true au ah) else (aX.j0 k (decide (au > 40)) au ah)) = some r := h; clear h; have HC2 := zA H; clear H; go_enter Tryd.func41, Tryd.ntmps41; go_upto_region 1 with (first | ((with_reducible refine aH (N := 1) rfl ?_); (try (refine iV (by rfl) ?_; dsimp only)); refine zX (N := 1) (cs := #[.int .i64 au, .slice aZ ah.length aW]) (t := 24) ?_; intro Ko hg w3 aG hb; have lT := zA (aG); have axK := zA (zW hg HB); have axL := zA (zW hg HB); replace HB := zA (af (zB HB) hb); clear hb aG hg))
 (try simp only [Act.put, List.setIfInBounds_toArray, List.set_cons_zero, List.set_cons_succ]); go_cut [12] (fun v12 wc => ∃ (kq : Nat) (rQ : Bool), v12 = .bool rQ ∧ ag (aX.j0 kq rQ au ah = some r) ∧ ag (kq ≤ k) ∧ ag (wc.heap[Ko]? = some (.cells #[.int .i64 au, (.slice aZ ah.length aW)] 24 (0, 0))) ∧ ag (Below w.heap.size w wc))
 case first =>
  have H := HC2.out; clear HC2; by_cases c4 : au < 0
  · rw [if_pos c4] at H; have qU := decide_eq_true c4; clear c4; (first | rw [qU] | (simp only [nE, qJ]; rw [qU]) | skip); have H' := zA H; clear H; obtain ⟨_, _, _, _⟩ := iG lT; go_wp2; go_meet
    case rel => exact ⟨_, (true), zv, H', ⟨by first | omega | exact Nat.le_refl _⟩, ⟨zK lT⟩, ⟨zB HB⟩⟩
  · rw [if_neg c4] at H; have qU := decide_eq_false c4; clear c4; (first | rw [qU] | (simp only [nE, qJ]; rw [qU]) | skip); have H' := zA H; clear H; obtain ⟨_, _, _, _⟩ := iG lT; go_wp2; go_meet
    case rel => exact ⟨_, (decide (au > 40)), zv, H', ⟨by first | omega | exact Nat.le_refl _⟩, ⟨zK lT⟩, ⟨zB HB⟩⟩
 case rest =>
  clear HC2
  obtain ⟨kq, rQ, rfl, HA, Qp, lT, HB⟩ := hcut; cases kq with
  | zero => exact absurd HA.out (by simp [aX.j0])
  | succ kj1 =>
   have H := HA.out; clear HA; simp only [aX.j0] at H; by_cases c7 : rQ = true
   · subst c7; rw [if_pos rfl] at H; obtain rfl := Option.some.inj H; go_wp2; go_ret; exact ⟨ze, zB HB⟩
   · replace c7 := Bool.eq_false_iff.mpr c7; subst c7; rw [if_neg (show ¬ (false = true) by decide)] at H; have H' := zA H; clear H; obtain ⟨_, _, _, _⟩ := iG lT; go_wp2; go_loopg [16] kj1 (fun kq v16 w' => ∃ (iy : Int), v16 = .int .i64 iy ∧ ag (aX.l0 kq ah (ah.length : Int) iy au ah = some r) ∧ ag (kq ≤ kj1) ∧ ag (w'.heap[Ko]? = some (.cells #[.int .i64 au, (.slice aZ ah.length aW)] 24 (0, 0))) ∧ ag (Below w.heap.size w w'))
     case atStart => exact ⟨(0), zv, H', ⟨Nat.le_refl _⟩, ⟨zK lT⟩, ⟨zB HB⟩⟩
     case round =>
      clear H'
      obtain ⟨iy, rfl, HA, mo, lT, HB⟩ := hrel; cases gk with
      | zero => exact absurd HA.out (by simp [aX.l0])
      | succ k2 =>
       have H := HA.out; clear HA; simp only [aX.l0] at H; by_cases c9 : iy < (ah.length : Int)
       · rw [if_pos c9] at H; have EX := decide_eq_true c9; clear c9; by_cases c10 : 0 ≤ iy
         · rw [if_pos c10] at H; have rR := decide_eq_true c10; clear c10; by_cases c11 : iy < (ah.length : Int)
           · rw [if_pos c11] at H; have EY := decide_eq_true c11; clear c11; have aiS := zA H; clear H; have aiT : 0 ≤ (iy : Int) := zo; have aiU : iy < (ah.length : Int) := zo; obtain ⟨CV, e116, VV, VW⟩ := eG cz.out iy aiT aiU; cases e116; replace VV := (zx HB VV :); replace VW := (zx HB VW :); replace aiT := eq_true aiT; replace aiU := eq_true aiU; go_upto_region 6 with (first | ((with_reducible refine aH (N := 4) rfl ?_); (try (refine iV (by rfl) ?_; dsimp only)); refine zX (N := 4) (cs := #[.int .i64 0, .int .i64 0]) (t := 42) ?_; intro Qq hg Tw aG hb; have pO := zA (aG); have axM := zA (zW hg HB); have axN := zA (zW hg HB); have uT := zA (lZ hg lT); have He := zA (l5 hg lT); replace lT := zA (dn lT hb); replace HB := zA (af (zB HB) hb); clear hb aG hg; have Kq := He.out; have Kr := uT.out; obtain ⟨_, _, _, _⟩ := iG pO))
             (try simp only [Act.put, List.setIfInBounds_toArray, List.set_cons_zero, List.set_cons_succ]); go_cut [36] (fun v36 wc => ∃ (kq : Nat) (Og : Bool), v36 = .bool Og ∧ ag (aX.j2 kq iy ah (ah.length : Int) iy Og au ah ((aa ah iy).f0) ((aa ah iy).f1) = some r) ∧ ag (kq ≤ k2) ∧ ag (wc.heap[Ko]? = some (.cells #[.int .i64 au, (.slice (some CV) ah.length aW)] 24 (0, 0))) ∧ ag (wc.heap[Qq]? = some (.cells #[.int .i64 ((aa ah iy).f0), .int .i64 ((aa ah iy).f1)] 42 (0, 0))) ∧ ag (Below w.heap.size w wc))
             case first =>
              have H := aiS.out; clear aiS; obtain ⟨aiV, aaq⟩ : ∃ j_ : Int, (mn ((aa ah iy).f0) ((aa ah iy).f1)) = j_ := ⟨_, rfl⟩; replace H : (if (aiV) < 0 then (aX.j2 k2 iy ah (ah.length : Int) iy true au ah ((aa ah iy).f0) ((aa ah iy).f1)) else (aX.j2 k2 iy ah (ah.length : Int) iy (decide ((mx ((aa ah iy).f0) ((aa ah iy).f1)) ≥ au)) au ah ((aa ah iy).f0) ((aa ah iy).f1))) = some r := by first | (rw [aaq] at H; exact H) | (simp only [aaq] at H ⊢; exact H)
              have atx : (if ((aa ah iy).f1) < ((aa ah iy).f0) then ((aa ah iy).f1) else ((aa ah iy).f0)) = aiV := aaq; by_cases c17 : (aiV) < 0
              · rw [if_pos c17] at H; have Kt := decide_eq_true c17; clear c17; (first | rw [Kt] | (simp only [nE, qJ]; rw [Kt]) | skip); have H' := zA H; clear H; have am2 := He.out; have am3 := uT.out; obtain ⟨_, _, _, _⟩ := iG pO; go_wp2; go_meet
                case rel => exact ⟨_, (true), zv, H', ⟨by have := Qp.out; have := mo.out; first | omega | exact Nat.le_refl _⟩, ⟨by refine iA uT.out ?_; refine iA uT.out ?_; refine zk ?_; exact lT.out⟩, ⟨by refine zk ?_; refine aV (cs := #[.int .i64 ((aa ah iy).f0), .int .i64 0]) ?_ 1 _ rfl; refine zk ?_; refine aV (cs := #[.int .i64 0, .int .i64 0]) ?_ 0 _ rfl; refine zk ?_; exact pO.out⟩, ⟨zB HB⟩⟩
              · rw [if_neg c17] at H; have Kt := decide_eq_false c17; clear c17; (first | rw [Kt] | (simp only [nE, qJ]; rw [Kt]) | skip); obtain ⟨yG, yQ⟩ : ∃ j_ : Int, (mx ((aa ah iy).f0) ((aa ah iy).f1)) = j_ := ⟨_, rfl⟩; replace H : (aX.j2 k2 iy ah (ah.length : Int) iy (decide ((yG) ≥ au)) au ah ((aa ah iy).f0) ((aa ah iy).f1)) = some r := by first | (rw [yQ] at H; exact H) | (simp only [yQ] at H ⊢; exact H)
                have Oh : (if ((aa ah iy).f0) < ((aa ah iy).f1) then ((aa ah iy).f1) else ((aa ah iy).f0)) = yG := yQ; have H' := zA H; clear H; have VX := He.out; have VY := uT.out; obtain ⟨_, _, _, _⟩ := iG pO; obtain ⟨_, _, _, _⟩ := iG lT; go_wp2; go_meet
                case rel => exact ⟨_, (decide ((yG) ≥ au)), (by first | rfl | (simp; done) | (simp only [← yQ] <;> (first | rfl | simp)) | (simp [*]; done)), H', ⟨by have := Qp.out; have := mo.out; first | omega | exact Nat.le_refl _⟩, ⟨by refine iA uT.out ?_; refine iA uT.out ?_; refine zk ?_; exact lT.out⟩, ⟨by refine zk ?_; refine aV (cs := #[.int .i64 ((aa ah iy).f0), .int .i64 0]) ?_ 1 _ rfl; refine zk ?_; refine aV (cs := #[.int .i64 0, .int .i64 0]) ?_ 0 _ rfl; refine zk ?_; exact pO.out⟩, ⟨zB HB⟩⟩
             case rest =>
              clear aiS
              obtain ⟨kq, Og, rfl, HA, adS, lT, pO, HB⟩ := hcut; cases kq with
              | zero => exact absurd HA.out (by simp [aX.j2])
              | succ YH =>
               have H := HA.out; clear HA; simp only [aX.j2] at H; by_cases c24 : Og = true
               · subst c24; rw [if_pos rfl] at H; obtain rfl := Option.some.inj H; go_wp2; go_ret; exact ⟨ze, zB HB⟩
               · replace c24 := Bool.eq_false_iff.mpr c24; subst c24; rw [if_neg (show ¬ (false = true) by decide)] at H; by_cases JB : iy > 0
                 · rw [if_pos JB] at H; have VZ := decide_eq_true JB; clear JB; obtain ⟨sW, MJ⟩ : ∃ j_ : Int, (wrap64 (iy - 1)) = j_ := ⟨_, rfl⟩; replace H : (if 0 ≤ (sW) then (if (sW) < (ah.length : Int) then ((gL.f YH ((aa ah (sW)).f0) ((aa ah (sW)).f1) ((aa ah iy).f0) ((aa ah iy).f1)).bind fun t119 => (if t119 ≥ 0 then (some 8) else (aX.l0 YH ah (ah.length : Int) (wrap64 (iy + 1)) au ah))) else (none)) else (none)) = some r := by first | (rw [MJ] at H; exact H) | (simp only [MJ] at H ⊢; exact H)
                   have aty : (IntKind.i64.wrap (iy - 1)) = sW := (nE _).trans MJ; by_cases Tx : 0 ≤ (sW)
                   · rw [if_pos Tx] at H; have am4 := decide_eq_true Tx; clear Tx; by_cases c28 : (sW) < (ah.length : Int)
                     · rw [if_pos c28] at H; have axO := decide_eq_true c28; clear c28; replace H := zE H; obtain ⟨t119, A29, H⟩ := H; (try dsimp only at H); by_cases Cf : t119 ≥ 0
                       · rw [if_pos Cf] at H; have IY := decide_eq_true Cf; clear Cf; obtain rfl := Option.some.inj H; try go_wp2
                         replace lT := zA (bO lT.out); replace pO := zA (bO pO.out); replace HB := zA (bn HB.out); have TJ : 0 ≤ ((sW) : Int) := zo; have TK : (sW) < (ah.length : Int) := zo; obtain ⟨aar, e118, wW, wX⟩ := eG cz.out (sW) TJ TK; have EZ := wX; have E5 := wW; obtain rfl : CV = aar := (by injection e118); replace wW := (zx HB wW :); replace wX := (zx HB wX :); replace TJ := eq_true TJ; replace TK := eq_true TK; refine EJ (n := 13) (S := fun w' => w'.cell? ⟨Ko, 0, none⟩ = some (.int .i64 au) ∧ w'.cell? ⟨Ko, 1, none⟩ = some (.slice (some CV) ah.length aW) ∧ w'.cell? ⟨Qq, 0, none⟩ = some (.int .i64 ((aa ah iy).f0)) ∧ w'.cell? ⟨Qq, 1, none⟩ = some (.int .i64 ((aa ah iy).f1)) ∧ w'.cell? (CV.add (((sW)).toNat * 2)) = some (.int .i64 ((aa ah (sW)).f0)) ∧ w'.cell? ⟨(CV.add (((sW)).toNat * 2)).block, (CV.add (((sW)).toNat * 2)).off + 1, none⟩ = some (.int .i64 ((aa ah (sW)).f1))) (ds := []) aX.aiR aX.aap ⟨(ai lT.out 0).trans rfl, (ai lT.out 1).trans rfl, (ai pO.out 0).trans rfl, (ai pO.out 1).trans rfl, ((zx HB E5 :)), ((zx HB EZ :))⟩ (fun hHeld qd DY => ?_); generalize wc.drew = w31 at lT pO HB wW wX hHeld ⊢; refine zp 0 ?_; refine zp 1 ?_; refine zp 2 ?_; refine zp 3 ?_; refine zp 5 ?_; refine zp 6 ?_; refine zt 4 ?_; refine zp 7 ?_; refine zt 8 ?_; refine zt 9 ?_; refine wU 10 (fun K hK => ?_); refine lu Tryd.func73 (by kernel_rfl) rfl #[.agg #[.int .i64 ((aa ah (sW)).f0), .int .i64 ((aa ah (sW)).f1)], .agg #[.int .i64 ((aa ah iy).f0), .int .i64 ((aa ah iy).f1)]] (by rfl) rfl rfl (by (try simp only [List.map_toArray, List.map_cons, List.map_nil]); first | done | (simp only [MJ]; rfl) | rfl | (simp only [List.length_drop, List.length_take]; rfl)) ?_; with_reducible refine (gL.calls YH ((aa ah (sW)).f0) ((aa ah (sW)).f1) ((aa ah iy).f0) ((aa ah iy).f1) t119 _ A29.out).mono ?_
                         rintro e w32 ⟨rfl, hb⟩; refine ⟨_, rfl, ?_⟩; replace lT := zA (dn lT hb); replace pO := zA (dn pO hb); replace HB := zA (af (zB HB) hb); refine hK.out _ _ ⟨(ai lT.out 0).trans rfl, (ai lT.out 1).trans rfl, (ai pO.out 0).trans rfl, (ai pO.out 1).trans rfl, ((zx HB E5 :)), ((zx HB EZ :))⟩ (fun hHeld => ?_); clear hK K; refine qp 47 ?_; refine zp 11 ?_; refine zp 12 ?_; refine lK (iZ qd.out (by kernel_rfl)) ?_; try go_wp2
                         go_ret; exact ⟨by first | rfl | (simp [jf, jg] <;> rfl) | (simp only [← MJ]; first | rfl | (simp [jf, jg] <;> rfl)) | (simp [*, jf, jg] <;> rfl), zB HB⟩
                       · rw [if_neg Cf] at H; have IY := decide_eq_false Cf; clear Cf; have H' := zA H; clear H; try go_wp2
                         replace lT := zA (bO lT.out); replace pO := zA (bO pO.out); replace HB := zA (bn HB.out); have TJ : 0 ≤ ((sW) : Int) := zo; have TK : (sW) < (ah.length : Int) := zo; obtain ⟨aar, e118, wW, wX⟩ := eG cz.out (sW) TJ TK; have EZ := wX; have E5 := wW; obtain rfl : CV = aar := (by injection e118); replace wW := (zx HB wW :); replace wX := (zx HB wX :); replace TJ := eq_true TJ; replace TK := eq_true TK; refine EJ (n := 13) (S := fun w' => w'.cell? ⟨Ko, 0, none⟩ = some (.int .i64 au) ∧ w'.cell? ⟨Ko, 1, none⟩ = some (.slice (some CV) ah.length aW) ∧ w'.cell? ⟨Qq, 0, none⟩ = some (.int .i64 ((aa ah iy).f0)) ∧ w'.cell? ⟨Qq, 1, none⟩ = some (.int .i64 ((aa ah iy).f1)) ∧ w'.cell? (CV.add (((sW)).toNat * 2)) = some (.int .i64 ((aa ah (sW)).f0)) ∧ w'.cell? ⟨(CV.add (((sW)).toNat * 2)).block, (CV.add (((sW)).toNat * 2)).off + 1, none⟩ = some (.int .i64 ((aa ah (sW)).f1))) (ds := []) aX.aiR aX.aap ⟨(ai lT.out 0).trans rfl, (ai lT.out 1).trans rfl, (ai pO.out 0).trans rfl, (ai pO.out 1).trans rfl, ((zx HB E5 :)), ((zx HB EZ :))⟩ (fun hHeld qd DY => ?_); generalize wc.drew = w33 at lT pO HB wW wX hHeld ⊢; refine zp 0 ?_; refine zp 1 ?_; refine zp 2 ?_; refine zp 3 ?_; refine zp 5 ?_; refine zp 6 ?_; refine zt 4 ?_; refine zp 7 ?_; refine zt 8 ?_; refine zt 9 ?_; refine wU 10 (fun K hK => ?_); refine lu Tryd.func73 (by kernel_rfl) rfl #[.agg #[.int .i64 ((aa ah (sW)).f0), .int .i64 ((aa ah (sW)).f1)], .agg #[.int .i64 ((aa ah iy).f0), .int .i64 ((aa ah iy).f1)]] (by rfl) rfl rfl (by (try simp only [List.map_toArray, List.map_cons, List.map_nil]); first | done | (simp only [MJ]; rfl) | rfl | (simp only [List.length_drop, List.length_take]; rfl)) ?_; with_reducible refine (gL.calls YH ((aa ah (sW)).f0) ((aa ah (sW)).f1) ((aa ah iy).f0) ((aa ah iy).f1) t119 _ A29.out).mono ?_
                         rintro e w34 ⟨rfl, hb⟩; refine ⟨_, rfl, ?_⟩; replace lT := zA (dn lT hb); replace pO := zA (dn pO hb); replace HB := zA (af (zB HB) hb); refine hK.out _ _ ⟨(ai lT.out 0).trans rfl, (ai lT.out 1).trans rfl, (ai pO.out 0).trans rfl, (ai pO.out 1).trans rfl, ((zx HB E5 :)), ((zx HB EZ :))⟩ (fun hHeld => ?_); clear hK K; refine qp 47 ?_; refine zp 11 ?_; refine zp 12 ?_; refine lK (iZ qd.out (by kernel_rfl)) ?_; try go_wp2
                         go_roundg YH
                         case measure => have := Qp.out; have := mo.out; have := adS.out; omega
                         case rel => exact ⟨(wrap64 (iy + 1)), zv, H', ⟨by have := Qp.out; have := mo.out; have := adS.out; omega⟩, ⟨zK lT⟩, ⟨zB HB⟩⟩
                     · rw [if_neg c28] at H; exact absurd H (by simp)
                   · rw [if_neg Tx] at H; exact absurd H (by simp)
                 · rw [if_neg JB] at H; have VZ := decide_eq_false JB; clear JB; have H' := zA H; clear H; try go_wp2
                   replace lT := zA (bO lT.out); replace pO := zA (bO pO.out); replace HB := zA (bn HB.out); refine yc (n := 13) (S := fun w' => True) (ds := []) #[false, false, false, false, false, false, false, false, false, false, false, false, false] (by kernel_rfl) rfl rfl trivial (fun hHeld => ?_); refine z8 aX.aiR aX.aap (fun qd DY => ?_); generalize wc.drew = w35 at lT pO HB hHeld ⊢; refine zp 0 ?_; refine zp 1 ?_; refine zp 2 ?_; refine zq 3 ?_; refine zq 4 ?_; refine zq 5 ?_; refine zq 6 ?_; refine zq 7 ?_; refine zq 8 ?_; refine zq 9 ?_; refine zq 10 ?_; refine zq 11 ?_; refine zp 12 ?_; refine lK (iZ qd.out (by kernel_rfl)) ?_; try go_wp2
                   go_roundg YH
                   case measure => have := Qp.out; have := mo.out; have := adS.out; omega
                   case rel => exact ⟨(wrap64 (iy + 1)), zv, H', ⟨by have := Qp.out; have := mo.out; have := adS.out; omega⟩, ⟨zK lT⟩, ⟨zB HB⟩⟩
           · rw [if_neg c11] at H; exact absurd H (by simp)
         · rw [if_neg c10] at H; exact absurd H (by simp)
       · rw [if_neg c9] at H; have EX := decide_eq_false c9; clear c9; obtain rfl := Option.some.inj H; go_wp2; go_ret; exact ⟨ze, zB HB⟩
def l8.T1 : Bool × List (List Nat × List Nat) := (true, [([], []), ([0], [0]), ([], []), ([2], [2]), ([1, 3], [1, 3]), ([], []), ([5], [5]), ([], []), ([7], [7]), ([6, 8, 4], [6, 8]), ([4, 9], [4, 9]), ([10, 9], [10]), ([11, 11, 0, 1, 2, 3, 4, 5, 6, 7, 8, 9, 10, 11], [11])])
def l8.B1 : List Nat := [0, 1, 0, 4, 15, 0, 32, 0, 128, 511, 1023, 2047, 4095]
theorem l8.Kn : oO .any (opsOf Tryd.f43 1) = l8.T1 := by kernel_rfl
theorem l8.CU : lD l8.T1.2 l8.B1 = true := by kernel_rfl
open Go.Sort in
def vN (w w' : World) : Prop := ∃ q os', w' = grow (w.drewN q) os'
theorem Qr (w : World) (os : Array Obj) (n : Nat) : (Go.Sort.grow w os).drewN n = Go.Sort.grow (w.drewN n) os := rfl
theorem vN.refl (w : World) : vN w w := ⟨0, #[], by simp; rfl⟩
theorem vN.drewN {w w' : World} (h : vN w w') (n : Nat) : vN w (w'.drewN n) := by
 obtain ⟨q, os, rfl⟩ := h; exact ⟨q + n, os, by rw [Qr, World.drewN_drewN]⟩
theorem vN.drew {w w' : World} (h : vN w w') : vN w w'.drew := h.drewN 1
theorem vN.alloc {w w' : World} (h : vN w w') (o : Obj) : vN w (w'.alloc o) := by
 obtain ⟨q, os, rfl⟩ := h; exact ⟨q, os ++ #[o], by rw [Go.Sort.alloc_eq_grow, Go.Sort.grow_grow]⟩
def Jo (x y : Int) : Int := if x < y then -1 else if x > y then 1 else 0
def orI (a b : Int) : Int := if a ≠ 0 then a else b
def Oi (x y : aD) : Int := orI (Jo x.f0 y.f0) (Jo x.f1 y.f1)
theorem aiX (x y : Int) : cmp_Compare_int.f x y = some (Jo x y) := by
 unfold cmp_Compare_int.f cmp_isNaN_int.f Jo; simp only [bne_self_eq_false, Option.bind_some, Bool.false_eq_true, if_false]; by_cases h : x < y
 · rw [if_pos h, if_pos h]
 · rw [if_neg h, if_neg h]; by_cases h2 : x > y
   · rw [if_pos h2, if_pos h2]
   · rw [if_neg h2, if_neg h2]
theorem adT (a b : Int) : eX.f 3 [a, b] = some (orI a b) := by
 have w1 : wrap64 1 = 1 := by unfold wrap64; omega
 have w2 : wrap64 2 = 2 := by unfold wrap64; omega
 unfold eX.f orI; by_cases ha : a = 0
 · subst ha; by_cases hb : b = 0
   · subst hb; simp [eX.l0, w1, w2, rd]
   · simp [eX.l0, w1, w2, rd, hb]
 · simp [eX.l0, rd, ha]
theorem MK (x y : Int) (w : World) : Calls Tryd.prog 54 #[.int .i64 x, .int .i64 y] w fun e w' => e = .returned (.int .i64 (Jo x y)) ∧ bR w w' := cmp_Compare_int.calls x y _ w (aiX x y)
theorem aas (a b : Int) (g : Nat) (w : World) (h0 : w.cell? ⟨g, 0, none⟩ = some (.int .i64 a)) (h1 : w.cell? ⟨g, 1, none⟩ = some (.int .i64 b)) :
 Calls Tryd.prog 53 #[.slice (some ⟨g, 0, none⟩) 2 2] w fun e w' => e = .returned (.int .i64 (orI a b)) ∧ bR w w' := by
 refine eX.calls 3 (some ⟨g, 0, none⟩) 2 [a, b] _ w ⟨rfl, by simp, fun _ => ⟨_, rfl, ?_⟩⟩ (by simp) (adT a b); intro j p hp; match j, hp with
 | 0, hp =>
  obtain rfl : a = p := by simpa using hp
  refine ⟨[.int .i64 a], rfl, rfl, ?_⟩; intro i u hu; match i, hu with
  | 0, hu => obtain rfl : Value.int .i64 a = u := by simpa using hu
             exact h0
 | 1, hp =>
  obtain rfl : b = p := by simpa using hp
  refine ⟨[.int .i64 b], rfl, rfl, ?_⟩; intro i u hu; match i, hu with
  | 0, hu => obtain rfl : Value.int .i64 b = u := by simpa using hu
             exact h1
section
variable {P : Program} {ops : Array Oper} {o : Oper} {a : Act} {Kc : Act → World → Prop} {Q : Exit → Act → World → Prop}
theorem aat {W : World} {inner : Array Value} {e : TypeId} {n : Nat} (hw : Region.wanted o (yielded ops a.tmps) = true) (hrun : (execOp a.eval o).run P W = .ok (.value (.slice (some ⟨W.heap.size, 0, none⟩) n n)) (W.alloc (.cells inner e)))
 (h : Kc (a.put o.dst (.slice (some ⟨W.heap.size, 0, none⟩) n n)) (W.alloc (.cells inner e))) : if Region.wanted o (yielded ops a.tmps) = true then Oper.wp P o a W Kc Q else Kc (a.put o.dst undef) W := Et hw hrun h
end
theorem ML (W : World) (cs : Array Value) (t : TypeId) (g i : Nat) (v : Value) (hg : g = W.heap.size) (h : cs[i]? = some v) : (W.alloc (.cells cs t)).cell? ⟨g, i, none⟩ = some v := by
 subst hg; exact (ai (g := W.heap.size) (lC W (.cells cs t (0, 0))) i).trans h
theorem aiY (a b : Int) (g : Nat) (W : World) (hg : g = W.heap.size) :
 Calls Tryd.prog 53 #[.slice (some ⟨g, 0, none⟩) 2 2] (W.alloc (.cells #[.int .i64 a, .int .i64 b] 3)) fun e w' => e = .returned (.int .i64 (orI a b)) ∧ bR (W.alloc (.cells #[.int .i64 a, .int .i64 b] 3)) w' :=
 aas a b g _ (ML _ _ _ _ _ _ hg rfl) (ML _ _ _ _ _ _ hg rfl)
theorem Mi (au sV cB dx : Int) (w : World) :
 Calls Tryd.prog 43 #[.agg #[.int .i64 au, .int .i64 sV], .agg #[.int .i64 cB, .int .i64 dx]] w fun e w' => e = .returned (.int .i64 (orI (Jo au cB) (Jo sV dx))) ∧ vN w w' := by
 have wV := Tryd.underlying42; go_enter Tryd.func43, Tryd.ntmps43; go_wp2_with fail; have Cg := zA (bO (je (lC w (.cells #[.int .i64 au, .int .i64 sV] 42 (0, 0))) (.cells #[.int .i64 cB, .int .i64 dx] 42 (0, 0)))); have Ae := zA (bO (lC (w.alloc (.cells #[.int .i64 au, .int .i64 sV] 42 (0, 0))) (.cells #[.int .i64 cB, .int .i64 dx] 42 (0, 0)))); have HG : vN w ((w.alloc (.cells #[.int .i64 au, .int .i64 sV] 42)).alloc (.cells #[.int .i64 cB, .int .i64 dx] 42)).drew := (((vN.refl w).alloc _).alloc _).drew; have hs : (w.alloc (.cells #[.int .i64 au, .int .i64 sV] 42 (0, 0))).heap.size = w.heap.size + 1 := by simp
 rw [hs] at Ae; clear hs; generalize w.heap.size + 1 = afY at Ae ⊢; generalize w.heap.size = afZ at Cg ⊢; refine EJ (n := 13) (S := fun w' => w'.cell? ⟨afZ, 0, none⟩ = some (.int .i64 au) ∧ w'.cell? ⟨afZ, 1, none⟩ = some (.int .i64 sV) ∧ w'.cell? ⟨afY, 0, none⟩ = some (.int .i64 cB) ∧ w'.cell? ⟨afY, 1, none⟩ = some (.int .i64 dx)) (ds := []) l8.Kn l8.CU ⟨(ai Cg.out 0).trans rfl, (ai Cg.out 1).trans rfl, (ai Ae.out 0).trans rfl, (ai Ae.out 1).trans rfl⟩ (fun hHeld qd DY => ?_); generalize ((w.alloc (.cells #[.int .i64 au, .int .i64 sV] 42)).alloc (.cells #[.int .i64 cB, .int .i64 dx] 42)).drew = w8 at Cg Ae HG hHeld ⊢; refine zp 0 ?_; refine zp 2 ?_; refine zp 5 ?_; refine zp 7 ?_; refine zt 1 ?_; refine zt 3 ?_; refine zt 6 ?_; refine zt 8 ?_; refine wU 4 (fun K hK => ?_); refine lu Tryd.func54 (by kernel_rfl) rfl #[.int .i64 au, .int .i64 cB] (by rfl) rfl rfl Cc ?_; with_reducible refine (MK au cB _).mono ?_
 rintro e w' ⟨rfl, ⟨nd, rfl⟩⟩; refine ⟨_, rfl, ?_⟩; refine hK.out _ _ ⟨(ai Cg.out 0).trans rfl, (ai Cg.out 1).trans rfl, (ai Ae.out 0).trans rfl, (ai Ae.out 1).trans rfl⟩ (fun hHeld => ?_); clear hK K; refine qp 9 ?_; refine wU 9 (fun K hK => ?_); refine lu Tryd.func54 (by kernel_rfl) rfl #[.int .i64 sV, .int .i64 dx] (by rfl) rfl rfl Cc ?_; with_reducible refine (MK sV dx _).mono ?_
 rintro e w' ⟨rfl, ⟨nd, rfl⟩⟩; refine ⟨_, rfl, ?_⟩; refine hK.out _ _ ⟨(ai Cg.out 0).trans rfl, (ai Cg.out 1).trans rfl, (ai Ae.out 0).trans rfl, (ai Ae.out 1).trans rfl⟩ (fun hHeld => ?_); clear hK K; refine qp 14 ?_; refine wU 10 (fun K hK => ?_); refine aat (inner := #[.int .i64 (Jo au cB), .int .i64 (Jo sV dx)]) (e := 3) (n := 2) rfl ?hr ?_; (case hr => first | (go_simp; done) | (go_simp; rfl)); refine hK.out _ _ ⟨(ai (je Cg.out _) 0).trans rfl, (ai (je Cg.out _) 1).trans rfl, (ai (je Ae.out _) 0).trans rfl, (ai (je Ae.out _) 1).trans rfl⟩ (fun hHeld => ?_); clear hK K; refine qp 15 ?_; refine wU 11 (fun K hK => ?_); refine lu Tryd.func53 (by kernel_rfl) rfl #[.slice (some ⟨_, 0, none⟩) 2 2] (by rfl) rfl rfl (by (try simp only [List.map_toArray, List.map_cons, List.map_nil]); first | done | rfl) ?_; with_reducible refine (aiY (Jo au cB) (Jo sV dx) _ ((w8.drewN _).drewN _) rfl).mono ?_
 rintro e w' ⟨rfl, ⟨nd, rfl⟩⟩; refine ⟨_, rfl, ?_⟩; refine hK.out _ _ ⟨(ai (je Cg.out _) 0).trans rfl, (ai (je Cg.out _) 1).trans rfl, (ai (je Ae.out _) 0).trans rfl, (ai (je Ae.out _) 1).trans rfl⟩ (fun hHeld => ?_); clear hK K; refine qp 16 ?_; refine zp 12 ?_; refine lK (iZ qd.out (by kernel_rfl)) ?_; try go_wp2
 go_ret; exact ⟨rfl, by repeat (first | exact HG | apply vN.alloc | apply vN.drewN | apply vN.drew)⟩
section adU
open Go.Shelf Go.RowKit Go.Lib Go.Sort
def Tryd.sortP_ren : Go.Shelf.Ren := ⟨fun | 6 => 42 | 15 => 75 | 14 => 74 | 28 => 96 | 29 => 97 | 20 => 88 | 21 => 89 | 22 => 90 | 23 => 91 | 24 => 92 | 25 => 93 | 26 => 94 | 27 => 95 | 46 => 98 | 47 => 99 | 48 => 100 | 49 => 101 | 50 => 102 | 57 => 103 | n => n, fun | 22 => 22 | 24 => 42 | 25 => 73 | 3 => 3 | 39 => 57 | 0 => 0 | 53 => 114 | 55 => 56 | 4 => 4 | 46 => 107 | 45 => 106 | 50 => 111 | 5 => 5 | 9 => 9 | 66 => 116 | 70 => 120 | 76 => 122 | 77 => 123 | n => n, fun | n => n⟩
theorem Tryd.sortP : Go.Proofs.SlLaysF0.n6 Tryd.prog Tryd.sortP_ren := {
 mixed := by kernel_rfl,
 f6 := ⟨Tryd.f42.name, by decide, Tryd.func42.trans (congrArg some (by kernel_rfl))⟩,
 f14 := ⟨Tryd.f74.name, by decide, Tryd.func74.trans (congrArg some (by kernel_rfl))⟩,
 f15 := Tryd.func75.trans (congrArg some (by kernel_rfl)),
 f20 := ⟨Tryd.f88.name, by decide, Tryd.func88.trans (congrArg some (by kernel_rfl))⟩,
 f21 := ⟨Tryd.f89.name, by decide, Tryd.func89.trans (congrArg some (by kernel_rfl))⟩,
 f22 := ⟨Tryd.f90.name, by decide, Tryd.func90.trans (congrArg some (by kernel_rfl))⟩,
 f23 := ⟨Tryd.f91.name, by decide, Tryd.func91.trans (congrArg some (by kernel_rfl))⟩,
 f24 := ⟨Tryd.f92.name, by decide, Tryd.func92.trans (congrArg some (by kernel_rfl))⟩,
 f25 := ⟨Tryd.f93.name, by decide, Tryd.func93.trans (congrArg some (by kernel_rfl))⟩,
 f26 := ⟨Tryd.f94.name, by decide, Tryd.func94.trans (congrArg some (by kernel_rfl))⟩,
 f27 := ⟨Tryd.f95.name, by decide, Tryd.func95.trans (congrArg some (by kernel_rfl))⟩,
 f28 := Tryd.func96.trans (congrArg some (by kernel_rfl)),
 f29 := Tryd.func97.trans (congrArg some (by kernel_rfl)),
 f46 := ⟨Tryd.f98.name, by decide, Tryd.func98.trans (congrArg some (by kernel_rfl))⟩,
 f47 := Tryd.func99.trans (congrArg some (by kernel_rfl)),
 f48 := Tryd.func100.trans (congrArg some (by kernel_rfl)),
 f49 := ⟨Tryd.f101.name, by decide, Tryd.func101.trans (congrArg some (by kernel_rfl))⟩,
 f50 := ⟨Tryd.f102.name, by decide, Tryd.func102.trans (congrArg some (by kernel_rfl))⟩,
 f57 := ⟨Tryd.f103.name, by decide, Tryd.func103.trans (congrArg some (by kernel_rfl))⟩,
 t0 := Tryd.underlying0,
 a0 := Tryd.isAgg0,
 z0 := Tryd.sizeOf0,
 v0 := Tryd.zeroValue0,
 t3 := Tryd.underlying3,
 a3 := Tryd.isAgg3,
 z3 := Tryd.sizeOf3,
 v3 := Tryd.zeroValue3,
 t4 := Tryd.underlying4,
 a4 := Tryd.isAgg4,
 z4 := Tryd.sizeOf4,
 v4 := Tryd.zeroValue4,
 t5 := Tryd.underlying5,
 a5 := Tryd.isAgg5,
 z5 := Tryd.sizeOf5,
 v5 := Tryd.zeroValue5,
 t9 := Tryd.underlying9,
 a9 := Tryd.isAgg9,
 z9 := Tryd.sizeOf9,
 v9 := Tryd.zeroValue9,
 t22 := Tryd.underlying22,
 a22 := Tryd.isAgg22,
 z22 := Tryd.sizeOf22,
 v22 := Tryd.zeroValue22,
 t25 := Tryd.underlying73,
 a25 := Tryd.isAgg73,
 z25 := Tryd.sizeOf73,
 v25 := Tryd.zeroValue73,
 t39 := Tryd.underlying57,
 a39 := Tryd.isAgg57,
 z39 := Tryd.sizeOf57,
 v39 := Tryd.zeroValue57,
 t45 := Tryd.underlying106,
 a45 := Tryd.isAgg106,
 z45 := Tryd.sizeOf106,
 v45 := Tryd.zeroValue106,
 t46 := Tryd.underlying107,
 a46 := Tryd.isAgg107,
 z46 := Tryd.sizeOf107,
 v46 := Tryd.zeroValue107,
 t50 := Tryd.underlying111,
 a50 := Tryd.isAgg111,
 z50 := Tryd.sizeOf111,
 v50 := Tryd.zeroValue111,
 t53 := Tryd.underlying114,
 a53 := Tryd.isAgg114,
 z53 := Tryd.sizeOf114,
 v53 := Tryd.zeroValue114,
 t55 := Tryd.underlying56,
 a55 := Tryd.isAgg56,
 z55 := Tryd.sizeOf56,
 v55 := Tryd.zeroValue56,
 t66 := Tryd.underlying116,
 a66 := Tryd.isAgg116,
 z66 := Tryd.sizeOf116,
 v66 := Tryd.zeroValue116,
 t70 := Tryd.underlying120,
 a70 := Tryd.isAgg120,
 z70 := Tryd.sizeOf120,
 v70 := Tryd.zeroValue120,
 t76 := Tryd.underlying122,
 a76 := Tryd.isAgg122,
 z76 := Tryd.sizeOf122,
 v76 := Tryd.zeroValue122,
 t77 := Tryd.underlying123,
 a77 := Tryd.isAgg123,
 z77 := Tryd.sizeOf123,
 v77 := Tryd.zeroValue123 }
instance : Inhabited aD := ⟨z42⟩
def ym (x : aD) : List Value := [.int .i64 x.f0, .int .i64 x.f1]
theorem adV (x y : aD) : Oi x y < 0 ↔ (x.f0 < y.f0 ∨ x.f0 = y.f0 ∧ x.f1 < y.f1) := by
 unfold Oi orI Jo; by_cases h1 : x.f0 < y.f0
 · simp [h1]
 · by_cases h2 : x.f0 > y.f0
   · simp [h1, h2]; omega
   · have e : x.f0 = y.f0 := by omega
     by_cases h3 : x.f1 < y.f1
     · simp [e, h3]
     · by_cases h4 : x.f1 > y.f1
       · simp [e, h3, h4]
       · simp [e, h3, h4]
theorem ltP (x y : aD) : ltOf Oi x y = decide (x.f0 < y.f0 ∨ x.f0 = y.f0 ∧ x.f1 < y.f1) := by
 unfold ltOf; exact decide_eq_decide.2 (adV x y)
theorem atA : SWO (ltOf Oi) where
 irrefl x := by rw [ltP]; simp
 trans x y z h1 h2 := by rw [ltP] at *; simp at *; omega
 ntrans x y z h1 h2 := by rw [ltP] at *; simp at *; omega
theorem atB (x y : aD) (h1 : ltOf Oi x y = false) (h2 : ltOf Oi y x = false) : x = y := by
 rw [ltP] at h1 h2; simp at h1 h2; cases x; cases y; simp at *; omega
def Af (x y : aD) : Bool := decide (x.f0 < y.f0 ∨ x.f0 = y.f0 ∧ x.f1 ≤ y.f1)
theorem aiZ : (fun x y => !ltOf Oi y x) = Af := by
 funext x y; rw [ltP, Af, ← decide_not]; exact decide_eq_decide.2 (by omega)
theorem aau (blk off size : Nat) (w : World) : CmpLays Tryd.prog 43 #[] ym 2 Oi blk off size w :=
 fun _ _ _ _ x y => Mi x.f0 x.f1 y.f0 y.f1 _
theorem Ah (a b c : aD) (h1 : Af a b = true) (h2 : Af b c = true) : Af a c = true := by
 simp [Af] at *; omega
theorem Ai (a b : aD) : (Af a b || Af b a) = true := by
 simp [Af]; omega
theorem Qs (a b : aD) (h1 : Af a b = true) (h2 : Af b a = true) : a = b := by
 cases a; cases b; simp [Af] at *; omega
theorem YI {l l' : List aD} (h : l.Perm l') : l.mergeSort Af = l'.mergeSort Af :=
 List.Perm.eq_of_pairwise (le := fun x y => Af x y = true) (fun a b _ _ h1 h2 => Qs a b h1 h2) (List.pairwise_mergeSort Ah Ai l) (List.pairwise_mergeSort Ah Ai l') ((List.mergeSort_perm _ _).trans (h.trans (List.mergeSort_perm _ _).symm))
def YJ (x : aD) : List aD → List aD
 | [] => [x]
 | y :: r => if Af x y = true then x :: y :: r else y :: YJ x r
def Oj : List aD → List aD
 | [] => []
 | x :: r => YJ x (Oj r)
theorem Hf (x : aD) : ∀ l, (YJ x l).Perm (x :: l)
 | [] => List.Perm.refl _
 | y :: r => by
  unfold YJ
  split
  · exact List.Perm.refl _
  · exact ((Hf x r).cons y).trans (List.Perm.swap x y r)
theorem yo : ∀ l, (Oj l).Perm l
 | [] => List.Perm.refl _
 | x :: r => (Hf x (Oj r)).trans ((yo r).cons x)
theorem Qt (x : aD) : ∀ l, l.Pairwise (fun a b => Af a b = true) → (YJ x l).Pairwise (fun a b => Af a b = true)
 | [], _ => List.pairwise_singleton _ _
 | y :: r, h => by
  unfold YJ
  have h' := List.pairwise_cons.1 h
  split
  · rename_i hx
    refine List.pairwise_cons.2 ⟨fun z hz => ?_, h⟩
    rcases List.mem_cons.1 hz with rfl | hz
    · exact hx
    · exact Ah _ _ _ hx (h'.1 z hz)
  · rename_i hx
    refine List.pairwise_cons.2 ⟨fun z hz => ?_, Qt x r h'.2⟩
    rcases List.mem_cons.1 ((Hf x r).mem_iff.1 hz) with rfl | hz
    · have := Ai z y
      simp only [Bool.or_eq_true] at this
      exact this.resolve_left hx
    · exact h'.1 z hz
theorem V3 : ∀ l, (Oj l).Pairwise (fun a b => Af a b = true)
 | [] => List.Pairwise.nil
 | x :: r => Qt x _ (V3 r)
theorem Ku (l : List aD) : Oj l = l.mergeSort Af :=
 List.Perm.eq_of_pairwise (le := fun x y => Af x y = true) (fun a b _ _ h1 h2 => Qs a b h1 h2) (V3 l) (List.pairwise_mergeSort Ah Ai l) ((yo l).trans (List.mergeSort_perm l Af).symm)
def kS.f (l0 : List aD) : Option (List aD) := if l0.length < 1000000000 then some (Oj l0) else none
theorem pair_cells {w : World} {base : Nat} {ok : Nat → Prop} {l : List aD} {inner : List Value} (h : gP (gm.M w base ok) 2 l inner) (j : Nat) (x : aD) (hx : l[j]? = some x) :
 inner[j * 2]? = some (.int .i64 x.f0) ∧ inner[j * 2 + 1]? = some (.int .i64 x.f1) := by
 have h2 := YD (h.2 j x hx); have a0 : ((inner.drop (j * 2)).take 2)[0]? = some (.int .i64 x.f0) := by rw [h2]; rfl
 have a1 : ((inner.drop (j * 2)).take 2)[1]? = some (.int .i64 x.f1) := by rw [h2]; rfl
 simp [List.getElem?_take, List.getElem?_drop] at a0 a1; exact ⟨a0, a1⟩
theorem flat_get (l : List aD) (j : Nat) (x : aD) (hx : l[j]? = some x) : (flatK ym 2 l.toArray)[j * 2]! = .int .i64 x.f0 ∧ (flatK ym 2 l.toArray)[j * 2 + 1]! = .int .i64 x.f1 := by
 obtain ⟨hj, hx'⟩ := List.getElem?_eq_some_iff.1 hx; have e : l.toArray[j]! = x := by simp [hj, hx']
 refine ⟨?_, ?_⟩
 · rw [get_flatK _ _ _ _ (by simp; omega), show j * 2 / 2 = j by omega, show j * 2 % 2 = 0 by omega, e]; rfl
 · rw [get_flatK _ _ _ _ (by simp; omega), show (j * 2 + 1) / 2 = j by omega, show (j * 2 + 1) % 2 = 1 by omega, e]; rfl
theorem TL {w : World} {base : Nat} {ok : Nat → Prop} {l : List aD} {inner : List Value} (h : gP (gm.M w base ok) 2 l inner) (t : Nat) (ht : t < l.length * 2) :
 inner[t]? = some (flatK ym 2 l.toArray)[t]! := by
 have hj : t / 2 < l.length := by omega
 have hx : l[t / 2]? = some l[t / 2] := List.getElem?_eq_getElem hj; have a := pair_cells h _ _ hx; have b := flat_get l _ _ hx; rcases Nat.mod_two_eq_zero_or_one t with m | m
 · have e : t / 2 * 2 = t := by omega
   rw [e] at a b; rw [a.1, b.1]
 · have e : t / 2 * 2 + 1 = t := by omega
   rw [e] at a b; rw [a.2, b.2]
theorem adW (F cur : Array Value) (k : Nat) (hk : k < F.size) (hc : F.size ≤ cur.size) : (putCells id 0 F cur)[k]? = some F[k]! := by
 simp only [putCells, Array.getElem?_mapIdx]; rw [Array.getElem?_eq_getElem (by omega)]; simp [hk]
theorem YK (w : World) (g n : Nat) (F : Array Value) (os : Array Obj) (cur : Array Value) (t : TypeId) (hh : w.heap[g]? = some (.cells cur t (0, 0))) :
 (grow (putRow id (Go.Sort.ahead w n) g 0 F) os).heap[g]? = some (.cells (putCells id 0 F cur) t (0, 0)) := by
 have hlt : g < w.heap.size := by
  rcases Nat.lt_or_ge g w.heap.size with h | h
  · exact h
  · rw [Array.getElem?_eq_none h] at hh; cases hh
 rw [heap_grow_old _ _ (by simpa [putRow, mapBlock, Go.Sort.ahead] using hlt)]; simp [putRow, mapBlock, Go.Sort.ahead, Array.getElem?_modify, hh, onCells]
theorem TM (w : World) (g n : Nat) (F : Array Value) (os : Array Obj) (i : Nat) (hi : i < w.heap.size) (hne : i ≠ g) :
 (grow (putRow id (Go.Sort.ahead w n) g 0 F) os).heap[i]? = w.heap[i]? := by
 rw [heap_grow_old _ _ (by simpa [putRow, mapBlock, Go.Sort.ahead] using hi)]; simp [putRow, mapBlock, Go.Sort.ahead, Array.getElem?_modify, Ne.symm hne]
set_option maxHeartbeats 1000000 in
theorem kS.calls (P0_ : Nat → Prop) (TN : Value) (l0 : List aD) (r : List aD) (w0 w : World) (hB : Below w0.heap.size w0 w) (ho0 : Kd.R gm 42 w w0.heap.size P0_ TN l0) (h : kS.f l0 = some r) :
 Calls Tryd.prog 42 #[TN, .func (.func 43) #[] #[]] w fun e w' => e = .returned (.tuple #[]) ∧ Kd.R gm 42 w' w0.heap.size (fun k_ => (P0_ k_ ∨ w.heap.size ≤ k_)) TN r ∧ Below w0.heap.size w0 w' ∧ Kept w w' (fun k_ => P0_ k_) := by
 unfold kS.f at h; split at h
 case isFalse => exact absurd h (by simp)
 case isTrue hlen =>
 obtain rfl := Option.some.inj h; clear h; rw [Ku]; by_cases hl : l0 = []
 · subst hl; obtain ⟨A, c, rfl⟩ := Kd.bD ho0; have hn := AnyF.slices_SortFunc_none (P := Tryd.prog) (ρ := Tryd.sortP_ren) { Tryd.sortP with } A c (.func (.func 43) #[] #[]) w; refine (show Calls Tryd.prog 42 #[.slice A 0 c, .func (.func 43) #[] #[]] w _ from hn).mono ?_; rintro e w' ⟨rfl, rfl⟩; exact ⟨rfl, by rw [List.mergeSort_nil]; exact Kd.aQ ho0 (fun k hk => .inl hk), hB, Kept.refl _ _⟩
 · have hp : 0 < l0.length := List.length_pos_iff.2 hl; obtain ⟨hok, inner, hown, am6⟩ := ho0; obtain ⟨hil, hcase⟩ := hown; rcases hcase with ⟨rfl, h0⟩ | ⟨g, cap, cur, rfl, hg, hh, hn, hcap, hsz, htake⟩
   · omega
   · have hPg : P0_ g := hok g (by simp [Value.ownBlock])
     have hlt : g < w.heap.size := by
      rcases Nat.lt_or_ge g w.heap.size with h | h
      · exact h
      · rw [Array.getElem?_eq_none h] at hh; cases hh
     have hsz2 : cur.size = cap * 2 := hsz; have hF : (flatK ym 2 l0.toArray).size = l0.length * 2 := by simp
     have hH : HoldsK ym 2 w g 0 l0.toArray := by
      intro j hj; rw [hF] at hj; refine ⟨?_, bU hh _⟩; rw [Nat.zero_add]; refine (ai hh j).trans ?_; have a := TL am6 j hj; rw [← htake, List.getElem?_take, if_pos (by exact hj)] at a; simpa using a
     have eg : ∀ args w, (callFunc 43 args).run Tryd.prog w = .ok (.enter 43 args) w := enters_of Tryd.func43 (by kernel_rfl) rfl; have hcon := AnyQ.slices_SortFunc_total Tryd.sortP 2 Tryd.isAgg42 Tryd.sizeOf42 ym (fun _ => rfl) (fun x v hv => by simp [ym] at hv; rcases hv with rfl | rfl <;> rfl) Oi atA 43 #[] g 0 cap l0.toArray w eg (aau g 0 _ w) hH hlt (by simp; omega) atB; rw [aiZ] at hcon; have am7 : Calls Tryd.prog 42 #[.slice (some ⟨g, 0, none⟩) l0.length cap, .func (.func 43) #[] #[]] w fun e w' => e = .returned (.tuple #[]) ∧ ∃ n os, w' = sortWorldK ym 2 w g 0 n (l0.mergeSort Af).toArray os := hcon
     refine am7.mono ?_; rintro e w' ⟨rfl, n, os, rfl⟩; have hl2 : (l0.mergeSort Af).length = l0.length := List.length_mergeSort _; have hF2 : (flatK ym 2 (l0.mergeSort Af).toArray).size = l0.length * 2 := by simp
     unfold sortWorldK putRowK; have hnew := YK w g n (flatK ym 2 (l0.mergeSort Af).toArray) os cur 42 hh; have hoth := TM w g n (flatK ym 2 (l0.mergeSort Af).toArray) os; have hszW : w.heap.size ≤ (grow (putRow id (Go.Sort.ahead w n) g 0 (flatK ym 2 (l0.mergeSort Af).toArray)) os).heap.size := by simp [grow, putRow, mapBlock, Go.Sort.ahead]
     have hos : (grow (putRow id (Go.Sort.ahead w n) g 0 (flatK ym 2 (l0.mergeSort Af).toArray)) os).os = w.os := rfl; have htp : (grow (putRow id (Go.Sort.ahead w n) g 0 (flatK ym 2 (l0.mergeSort Af).toArray)) os).tape = w.tape := rfl; have hou : (grow (putRow id (Go.Sort.ahead w n) g 0 (flatK ym 2 (l0.mergeSort Af).toArray)) os).output = w.output := rfl; generalize hWW : grow (putRow id (Go.Sort.ahead w n) g 0 (flatK ym 2 (l0.mergeSort Af).toArray)) os = W at *; have hput : ∀ k, k < l0.length * 2 → (putCells id 0 (flatK ym 2 (l0.mergeSort Af).toArray) cur)[k]? = some (flatK ym 2 (l0.mergeSort Af).toArray)[k]! := fun k hk => adW _ _ k (by omega) (by omega)
     have am8 : (putCells id 0 (flatK ym 2 (l0.mergeSort Af).toArray) cur).size = cap * 2 := by simp [putCells, hsz2]
     have hpl : (putCells id 0 (flatK ym 2 (l0.mergeSort Af).toArray) cur).toList.length = cap * 2 := by simpa using am8
     refine ⟨rfl, ⟨fun k hk => .inl (hok k hk), (putCells id 0 (flatK ym 2 (l0.mergeSort Af).toArray) cur).toList.take (l0.length * 2), ?_, ?_⟩, ?_, ?_⟩
     · rw [hl2]; exact ⟨by show _ = l0.length * 2; rw [List.length_take, hpl]; exact Nat.min_eq_left (by omega), .inr ⟨g, cap, _, rfl, hg, hnew, hn, hcap, am8, rfl⟩⟩
     · refine ⟨by rw [hl2]; show _ = l0.length * 2; rw [List.length_take, hpl]; exact Nat.min_eq_left (by omega), fun j p hj => ?_⟩; have hjl : j < l0.length := by rw [← hl2]; exact (List.getElem?_eq_some_iff.1 hj).1
       have fg := flat_get _ j p hj
       have e : (((putCells id 0 (flatK ym 2 (l0.mergeSort Af).toArray) cur).toList.take (l0.length * 2)).drop (j * 2)).take 2 = [.int .i64 p.f0, .int .i64 p.f1] := by
        apply List.ext_getElem?; intro i; rw [List.getElem?_take]; by_cases hi : i < 2
        · rw [if_pos hi, List.getElem?_drop, List.getElem?_take, if_pos (by omega), Array.getElem?_toList, hput _ (by omega)]; match i, hi with
          | 0, _ => rw [Nat.add_zero, fg.1]; rfl
          | 1, _ => rw [fg.2]; rfl
        · rw [if_neg hi]; rw [List.getElem?_eq_none (by simp; omega)]
       rw [show gm.sz = 2 from rfl, e]; exact mR _ _ _ p
     · refine ⟨hos.trans hB.os, htp.trans hB.tape, hou.trans hB.output, Nat.le_trans hB.size hszW, fun k hk => ?_⟩; exact (hoth k (Nat.lt_of_lt_of_le hk hB.size) (by omega)).trans (hB.block k hk)
     · exact ⟨hszW, fun i hi hn' => hoth i hi (fun e => hn' (e ▸ hPg))⟩
end adU
end Go.Proofs.YtjmdlmogdbhdhaaDoor.P
namespace Go.Proofs.YtjmdlmogdbhdhaaDoor.P
open Go.RowKit Go.Proofs.YtjmdlmogdbhdhaaDoorW.PrintWords Go.Proofs.YtjmdlmogdbhdhaaDoorW.PrintLast Go.Proofs.YtjmdlmogdbhdhaaDoorW.PrintMore
attribute [local go_sem] iI iJ jP jQ gH gI iK iL
set_option linter.unusedVariables false
set_option linter.unusedSimpArgs false
open Go.ChangeMaps (setBlock)
set_option maxHeartbeats 8000000
set_option maxRecDepth 100000
def uJ (p : aD) : Value := .agg #[.int .i64 p.f0, .int .i64 p.f1]
def qH : List (aD × Bool) → Nat → List MapEntry
 | [], _ => []
 | (p, v) :: r, i => { key := uJ p, val := .bool v, born := i } :: qH r (i + 1)
def jK (W : World) (b : Nat) (m : List (aD × Bool)) : Prop := W.heap[b]? = some (.map (qH m 0).toArray m.length)
def YL (x y : aD) : Bool := x.f0 == y.f0 && x.f1 == y.f1
def lU : List (aD × Bool) → aD → Bool → List (aD × Bool)
 | [], x, v => [(x, v)]
 | (y, u) :: r, x, v => if YL x y = true then (x, v) :: r else (y, u) :: lU r x v
def pq : List (aD × Bool) → aD → Bool
 | [], _ => false
 | (y, u) :: r, x => if YL x y = true then u else pq r x
def Ch : List (aD × Bool) → aD → Nat → Option (Nat × Value)
 | [], _, _ => none
 | (y, u) :: r, x, i => if YL x y = true then some (i, .bool u) else Ch r x (i + 1)
theorem aav (e : Bool) (x : aD) (w : World) : (Instr.checkKey e 10000 42 (uJ x)).run Tryd.prog w = .ok () w := by kernel_rfl
theorem ai0 (x y : aD) (w : World) : (Op.equal 42 (uJ x) (uJ y)).run Tryd.prog w = .ok (YL x y) w := VU 9998 w x.f0 y.f0 x.f1 y.f1
theorem am9 (x : aD) (w : World) : ∀ (m : List (aD × Bool)) (i j : Nat), (Instr.findAsking 42 (uJ x) (qH m i) j).run Tryd.prog w = .ok (Ch m x j) w
 | [], i, j => rfl
 | (y, u) :: r, i, j => by
  simp only [qH, Instr.findAsking, Sem.run_bind, ai0, Result.andThen, Ch]
  by_cases h : YL x y = true
  · simp only [h, if_true]; rfl
  · simp only [Bool.not_eq_true] at h
    simp only [h, if_false, Bool.false_eq_true]
    exact am9 x w r (i + 1) (j + 1)
theorem ana (x : aD) (w : World) (m : List (aD × Bool)) : (Instr.findKey 42 (uJ x) (qH m 0)).run Tryd.prog w = .ok (Ch m x 0) w := by
 have hu := run_underlying Tryd.underlying42 w; simp only [Instr.findKey, Sem.run_bind, hu, Result.andThen]; cases m with
 | nil => rfl
 | cons p r =>
  obtain ⟨y, u⟩ := p; have e : ∀ fs, Instr.findNow (.struct fs) (uJ x) (qH ((y, u) :: r) 0) 0 = none := fun fs => rfl
  rw [e]; exact am9 x w ((y, u) :: r) 0 0
theorem MM (x : aD) : ∀ (m : List (aD × Bool)) (i : Nat), (Ch m x i = none → pq m x = false) ∧ (∀ j v, Ch m x i = some (j, v) → v = .bool (pq m x))
 | [], i => ⟨fun _ => rfl, fun j v h => by cases h⟩
 | (y, u) :: r, i => by
  unfold Ch pq
  by_cases h : YL x y = true
  · rw [if_pos h, if_pos h]
    exact ⟨fun h2 => (by cases h2), fun j v h2 => (by cases h2; rfl)⟩
  · rw [if_neg h, if_neg h]
    exact MM x r (i + 1)
theorem Eu {w : World} {b : Nat} {es : Array MapEntry} {c : Nat} (h : w.heap[b]? = some (.map es c)) : (getObj b).run Tryd.prog w = .ok (.map es c) w := by
 simp [getObj, Sem.run, h]
theorem Bl {W : World} {b : Nat} {m : List (aD × Bool)} (h : jK W b m) (x : aD) :
 (Instr.lookup 71 (.map (some b)) (uJ x) false).run Tryd.prog W = .ok (.bool (pq m x)) W := by
 have hu := run_underlying Tryd.underlying71 W; simp only [Instr.lookup, Sem.run_bind, hu, Result.andThen, Eu h, Sem.run_pure, aav, ana]; have hg := MM x m 0; cases hf : Ch m x 0 with
 | none =>
  have hz : (zeroValue 4).run Tryd.prog W = .ok (.bool false) W := by kernel_rfl
  simp only [hz, Sem.run_bind, Result.andThen, Sem.run_pure, hg.1 hf]; rfl
 | some q =>
  obtain ⟨j, v⟩ := q; rw [hg.2 j v hf]; rfl
theorem MN (x : aD) (v : Bool) : ∀ (m : List (aD × Bool)) (i : Nat), (Ch m x i = none → lU m x v = m ++ [(x, v)]) ∧ (∀ j u, Ch m x i = some (j, u) → i ≤ j ∧ j - i < m.length ∧ lU m x v = m.set (j - i) (x, v) ∧ ∃ y, m[j - i]? = some y ∧ YL x y.1 = true)
 | [], i => ⟨fun _ => rfl, fun j u h => by cases h⟩
 | (y, u) :: r, i => by
  unfold Ch lU
  by_cases h : YL x y = true
  · rw [if_pos h, if_pos h]
    refine ⟨fun h2 => (by cases h2), fun j v h2 => ?_⟩
    simp only [Option.some.injEq, Prod.mk.injEq] at h2
    obtain ⟨rfl, rfl⟩ := h2
    exact ⟨Nat.le_refl _, by simp, by simp, (y, u), by simp, h⟩
  · rw [if_neg h, if_neg h]
    obtain ⟨h1, h2⟩ := MN x v r (i + 1)
    refine ⟨fun h3 => by rw [h1 h3]; rfl, fun j u2 h3 => ?_⟩
    obtain ⟨a, b, c, z, d, e⟩ := h2 j u2 h3
    have e1 : j - i = (j - (i + 1)) + 1 := by omega
    refine ⟨by omega, by simp; omega, by rw [c, e1]; rfl, z, by rw [e1]; exact d, e⟩
theorem MO (x : aD) (v : Bool) : ∀ (m : List (aD × Bool)) (i : Nat), qH (m ++ [(x, v)]) i = qH m i ++ [{ key := uJ x, val := .bool v, born := i + m.length }]
 | [], i => rfl
 | (y, u) :: r, i => by
  simp only [List.cons_append, qH, MO x v r (i + 1), List.length_cons]
  rw [show i + 1 + r.length = i + (r.length + 1) by omega]
theorem E8 : ∀ (m : List (aD × Bool)) (i j : Nat), (qH m i)[j]? = (m[j]?).map fun p => { key := uJ p.1, val := .bool p.2, born := i + j }
 | [], i, j => by simp [qH]
 | (y, u) :: r, i, 0 => by simp [qH]
 | (y, u) :: r, i, j + 1 => by
  simp only [qH, List.getElem?_cons_succ, E8 r (i + 1) j]
  cases r[j]? <;> simp; omega
theorem sO (x y : aD) : YL x y = true ↔ x = y := by
 cases x; cases y; simp [YL]
theorem anb (x : aD) : Instr.sameBits 10000 (uJ x) (uJ x) = true := by
 show (2 == 2 && _) = true; simp [Instr.sameBits]
theorem YM (x : aD) (w : World) : (Instr.keyThatStays (uJ x) (uJ x)).run Tryd.prog w = .ok (uJ x) w := by
 simp only [Instr.keyThatStays, anb, if_true]; rfl
theorem Kv {w : World} {b : Nat} {es : Array MapEntry} {c : Nat} (h : w.heap[b]? = some (.map es c)) (o' : Obj) : (setObj b o').run Tryd.prog w = .ok () (setBlock w b o') := by
 simp [setObj, Sem.run, h, setBlock]
theorem Bn {W : World} {b : Nat} {m : List (aD × Bool)} (h : jK W b m) (x : aD) (v : Bool) :
 (Instr.mapUpdate 71 (.map (some b)) (uJ x) (.bool v)).run Tryd.prog W = .ok () (setBlock W b (.map (qH (lU m x v) 0).toArray (lU m x v).length)) := by
 have hu := run_underlying Tryd.underlying71 W; simp only [Instr.mapUpdate, Sem.run_bind, hu, Result.andThen, Eu h, aav, ana]; have hg := MN x v m 0; cases hf : Ch m x 0 with
 | none =>
  simp only [Kv h]; rw [hg.1 hf, MO]; simp
 | some q =>
  obtain ⟨j, u⟩ := q; obtain ⟨-, hj, hp, y, hy, he⟩ := hg.2 j u hf; rw [Nat.sub_zero] at hj hp hy; have hxy : x = y.1 := (sO _ _).1 he
  have hk : ((((qH m 0).toArray[j]?).map (·.key)).getD (uJ x)) = uJ x := by
   simp only [List.getElem?_toArray, E8, hy, Option.map_some, Option.getD_some, hxy]
  have e2 : (lU m x v).length = m.length := by rw [hp]; simp
  have e1 : (qH m 0).toArray.modify j (fun e => { e with key := uJ x, val := .bool v }) = (qH (lU m x v) 0).toArray := by
   rw [hp]; apply Array.ext_getElem?; intro i; rw [Array.getElem?_modify, List.getElem?_toArray, List.getElem?_toArray, E8, E8, List.getElem?_set]; by_cases hi : j = i
   · subst hi; simp [hj, hy]
   · simp [hi]
  simp only [hk, Sem.run_bind, YM, Result.andThen]; rw [e1, e2]; exact Kv h _
theorem jK.put {W : World} {b : Nat} {m : List (aD × Bool)} (h : jK W b m) (m' : List (aD × Bool)) : jK (setBlock W b (.map (qH m' 0).toArray m'.length)) b m' := by
 have hlt : b < W.heap.size := by
  rcases Nat.lt_or_ge b W.heap.size with h2 | h2
  · exact h2
  · unfold jK at h; rw [Array.getElem?_eq_none h2] at h; cases h
 unfold jK setBlock; simp [hlt]
def mE (q : (aD × Bool) × Nat) : MapEntry := { key := uJ q.1.1, val := .bool q.1.2, born := q.2 }
def pz (m : List (aD × Bool)) (seen : Array Nat) : List ((aD × Bool) × Nat) := m.zipIdx.filter fun q => !seen.contains q.2
theorem CW : ∀ (m : List (aD × Bool)) (i : Nat), qH m i = (m.zipIdx i).map mE
 | [], i => rfl
 | (y, u) :: r, i => by
  simp only [qH, List.zipIdx_cons, List.map_cons, CW r (i + 1)]
  rfl
theorem MP (m : List (aD × Bool)) : (m.zipIdx.map (·.2)).Nodup := by
 rw [show m.zipIdx.map (·.2) = List.range' 0 m.length from List.zipIdx_map_snd _ _]; exact List.nodup_range'
theorem TP (m : List (aD × Bool)) : ((qH m 0).map (·.born)).Nodup := by
 rw [CW, List.map_map]; exact MP m
theorem MQ (m : List (aD × Bool)) (seen : Array Nat) : (leftOf (qH m 0).toArray seen).toList = (pz m seen).map mE := by
 unfold leftOf pz; rw [CW, List.filter_toArray, List.filter_map]; rfl
theorem ai1 (m : List (aD × Bool)) (q : (aD × Bool) × Nat) (h : q ∈ m.zipIdx) : q.2 < m.length := by
 have := List.mem_zipIdx h; omega
section
variable {ops : Array Oper} {rest : List Oper} {o : Oper} {a : Act} {Q : Exit → Act → World → Prop}
theorem aaw {W : World} {bi bm : Nat} {m : List (aD × Bool)} {seen : Array Nat} (hg : o.guard = none) (it : Operand) (hop : o.op = Op.next it false)
 (hit : a.eval it = .pointer (some ⟨bi, 0, none⟩)) (hr : W.heap[bi]? = some (.mapIter (some bm) m.length seen m.length)) (hb : jK W bm m)
 (hDone : pz m seen = [] → wpList Tryd.prog ops Q rest (a.put o.dst (.tuple #[.bool false])) W)
 (hMore : ∀ q, q ∈ pz m seen → ∀ w1, (w1 = W ∨ w1 = W.drew) → wpList Tryd.prog ops Q rest (a.put o.dst (.tuple #[.bool true, .agg #[.int .i64 q.1.1.f0, .int .i64 q.1.1.f1], .bool q.1.2])) (setBlock w1 bi (.mapIter (some bm) m.length (seen.push q.2) m.length))) :
 wpList Tryd.prog ops Q (o :: rest) a W := by
 refine wpList_plain hg fun K' hK' => ?_
 unfold Oper.wp
 have hold : ∀ x ∈ (qH m 0).toArray.toList, x.born < m.length := by
  intro x hx; rw [List.toList_toArray, CW] at hx; obtain ⟨q, hq, rfl⟩ := List.mem_map.1 hx; exact ai1 m q hq
 rcases run_next_at (P := Tryd.prog) W o.type bi bm m.length m.length seen (qH m 0).toArray m.length hr hb hold (Nat.le_refl _) with ⟨h0, hrun⟩ | ⟨e, he, w1, hw, hrun⟩
 · have hl : pz m seen = [] := by
    have h2 := MQ m seen; rw [Array.eq_empty_of_size_eq_zero h0] at h2; exact List.map_eq_nil_iff.1 h2.symm
   simp [execOp, hop, hit, hrun, Result.andThen]; exact hK' _ _ (hDone hl)
 · rw [MQ] at he; obtain ⟨q, hq, rfl⟩ := List.mem_map.1 he; have h3 := hMore q hq w1 hw; simp only [mE] at hrun; simp [execOp, hop, hit, hrun, Result.andThen]; exact hK' _ _ h3
end
theorem YN {W : World} {bi bm : Nat} {m : List (aD × Bool)} {seen : Array Nat} {q : (aD × Bool) × Nat} (hr : W.heap[bi]? = some (.mapIter (some bm) m.length (seen.push q.2) m.length)) (hb : jK W bm m) (hq : q ∈ m.zipIdx) :
 (Instr.entry (.pointer (some ⟨bi, 0, none⟩))).run Tryd.prog W = .ok (.tuple #[uJ q.1.1, .bool q.1.2]) W := by
 have h := run_entry_at (P := Tryd.prog) W bi bm m.length seen (qH m 0).toArray m.length (mE q) hr hb (by rw [List.toList_toArray, CW]; exact List.mem_map.2 ⟨q, hq, rfl⟩) (by rw [List.toList_toArray]; exact TP m); exact h
theorem YO {W : World} {b : Nat} {m : List (aD × Bool)} (h : jK W b m) :
 (Instr.range 71 (.map (some b))).run Tryd.prog W = .ok (.pointer (some ⟨W.heap.size, 0, none⟩)) (W.alloc (.mapIter (some b) m.length #[] m.length)) := by
 have hu := run_underlying Tryd.underlying71 W; simp only [Instr.range, Sem.run_bind, hu, Result.andThen, Eu h, Sem.run_pure]; rfl
theorem Ed {α : Type} (f : α → Nat) (q : α) : ∀ (L : List α), (L.map f).Nodup → q ∈ L → L.Perm (q :: L.filter fun x => !(f x == f q))
 | [], _, h => by cases h
 | x :: r, hn, h => by
  simp only [List.map_cons, List.nodup_cons, List.mem_map, not_exists, not_and] at hn
  by_cases hx : f x = f q
  · have hxq : x = q := by
     rcases List.mem_cons.1 h with e | e
     · exact e.symm
     · exact absurd hx.symm (hn.1 q e)
    subst hxq
    have e : (x :: r).filter (fun y => !(f y == f x)) = r := by
     rw [List.filter_cons_of_neg (by simp)]; exact List.filter_eq_self.2 fun y hy => by have := hn.1 y hy; simpa using this
    rw [e]
  · have hq : q ∈ r := by
     rcases List.mem_cons.1 h with e | e
     · exact absurd (by rw [e]) hx
     · exact e
    have ih := Ed f q r hn.2 hq; rw [List.filter_cons_of_pos (by simpa using hx)]; exact (List.Perm.cons x ih).trans (List.Perm.swap q x _)
theorem MR (m : List (aD × Bool)) (seen : Array Nat) (q : (aD × Bool) × Nat) (hq : q ∈ pz m seen) : (pz m seen).Perm (q :: pz m (seen.push q.2)) := by
 have hn : ((pz m seen).map (·.2)).Nodup := (MP m).sublist (List.Sublist.map _ List.filter_sublist); have h := Ed (·.2) q (pz m seen) hn hq
 have e : (pz m seen).filter (fun x => !(x.2 == q.2)) = pz m (seen.push q.2) := by
  unfold pz; rw [List.filter_filter]; congr 1; funext x; by_cases hx : x.2 = q.2 <;> simp [hx, Bool.and_comm]
 rw [e] at h; exact h
theorem aax {m : List (aD × Bool)} {seen : Array Nat} {q : (aD × Bool) × Nat} (hq : q ∈ pz m seen) : q ∈ m.zipIdx := (List.mem_filter.1 hq).1
theorem Kw (m : List (aD × Bool)) : pz m #[] = m.zipIdx := by
 unfold pz; exact List.filter_eq_self.2 fun q _ => by simp
open Go.ChangeMaps (setBlock)
def zI (l : List aD) : List (aD × Bool) := l.foldl (fun m p => lU m p true) []
def su (N : Int) (p : aD) : Bool := decide (p.f0 < 0) || decide (p.f0 ≥ N) || decide (p.f1 < 0) || decide (p.f1 ≥ N)
def CY : List aD → List (aD × Bool) → List (aD × Bool) → Option (List (aD × Bool))
 | [], _, there => some there
 | p :: r, seen, there => if pq seen p = true then none else CY r (lU seen p true) (lU there p (!pq there p))
def nN (m : List (aD × Bool)) : List aD := (m.filter (·.2)).map (·.1)
def TQ (N : Int) : Option (List (aD × Bool)) → Int × List aD × Int
 | none => (0, [], 5)
 | some m => (N, Oj (nN m), 0)
def gB.f (k : Nat) (au : Int) (ah : List aD) (l1 : List aD) : Option (Int × List aD × Int) :=
 (aX.f k au ah).bind fun t => if t = 0 then (if ah.length + l1.length < 1000000 then (if l1.any (su au) = true then some (0, [], 1) else some (TQ au (CY l1 [] (zI ah)))) else none) else some (0, [], t)
structure TW (w W : World) (gb gr : Nat) (X Y : Obj) : Prop where
 hb : Below w.heap.size w W
 bg : W.heap[gb]? = some X
 br : W.heap[gr]? = some Y
theorem jq {W : World} {g : Nat} {o : Obj} (h : W.heap[g]? = some o) : g < W.heap.size := by
 rcases Nat.lt_or_ge g W.heap.size with h2 | h2
 · exact h2
 · rw [Array.getElem?_eq_none h2] at h; cases h
theorem TW.step {w W W' : World} {gb gr : Nat} {X Y : Obj} (h : TW w W gb gr X Y) (hb : Below W.heap.size W W') : TW w W' gb gr X Y :=
 ⟨af h.hb hb, (hb.block _ (jq h.bg)).trans h.bg, (hb.block _ (jq h.br)).trans h.br⟩
theorem TW.alloc {w W : World} {gb gr : Nat} {X Y : Obj} (h : TW w W gb gr X Y) (o : Obj) : TW w (W.alloc o) gb gr X Y := h.step (bB (Below.refl _ _) o)
theorem TW.drewN {w W : World} {gb gr : Nat} {X Y : Obj} (h : TW w W gb gr X Y) (n : Nat) : TW w (W.drewN n) gb gr X Y := ⟨⟨h.hb.os, h.hb.tape, h.hb.output, h.hb.size, h.hb.block⟩, h.bg, h.br⟩
theorem TW.drew {w W : World} {gb gr : Nat} {X Y : Obj} (h : TW w W gb gr X Y) : TW w W.drew gb gr X Y := h.drewN 1
theorem qf (W : World) (b i : Nat) (o : Obj) : (setBlock W b o).heap[i]? = if b = i then (if b < W.heap.size then some o else none) else W.heap[i]? := by
 unfold setBlock; simp only [Array.set!_eq_setIfInBounds, Array.getElem?_setIfInBounds]
theorem Ky {w W : World} {b : Nat} (o : Obj) (hb : Below w.heap.size w W) (hB : w.heap.size ≤ b) : Below w.heap.size w (setBlock W b o) :=
 ⟨hb.os, hb.tape, hb.output, by simpa [setBlock] using hb.size, fun i hi => by rw [qf, if_neg (by omega)]; exact hb.block i hi⟩
theorem TW.aay {w W : World} {gb gr b : Nat} {X Y : Obj} (h : TW w W gb gr X Y) (o : Obj) (hB : w.heap.size ≤ b) (h1 : b ≠ gb) (h2 : b ≠ gr) : TW w (setBlock W b o) gb gr X Y :=
 ⟨Ky o h.hb hB, by rw [qf, if_neg h1]; exact h.bg, by rw [qf, if_neg h2]; exact h.br⟩
theorem jK.step {W W' : World} {b : Nat} {m : List (aD × Bool)} (h : jK W b m) (hb : Below W.heap.size W W') : jK W' b m := (hb.block _ (jq h)).trans h
theorem jK.alloc {W : World} {b : Nat} {m : List (aD × Bool)} (h : jK W b m) (o : Obj) : jK (W.alloc o) b m := h.step (bB (Below.refl _ _) o)
theorem jK.other {W : World} {b b' : Nat} {m : List (aD × Bool)} (h : jK W b m) (o : Obj) (hn : b' ≠ b) : jK (setBlock W b' o) b m := by
 unfold jK; rw [qf, if_neg hn]; exact h
theorem V4 (l : List aD) (i : Nat) (hi : i < l.length) : l.take (i + 1) = l.take i ++ [aa l (i : Int)] := by
 rw [List.take_succ_eq_append_getElem hi]; simp [aa, hi]
theorem YP (l : List aD) (i : Nat) (hi : i < l.length) : lU (zI (l.take i)) (aa l (i : Int)) true = zI (l.take (i + 1)) := by
 unfold zI; rw [V4 l i hi, List.foldl_append]; rfl
theorem Ol {w W : World} {gb gr : Nat} {X : Obj} (h : TW w W gb gr X (.cells #[.int .i64 0, .slice none 0 0] 24 (0, 0))) (hr : w.heap.size ≤ gr) :
 ((W.setCell ⟨gr, 0, none⟩ (.int .i64 0)).setCell ⟨gr, 1, none⟩ (.slice none 0 0)).heap[gr]? = some (.cells #[.int .i64 0, .slice none 0 0] 24 (0, 0)) ∧ Below w.heap.size w ((W.setCell ⟨gr, 0, none⟩ (.int .i64 0)).setCell ⟨gr, 1, none⟩ (.slice none 0 0)) :=
 ⟨aV (aV h.br 0 (.int .i64 0) rfl) 1 (.slice none 0 0) rfl, bG (bG h.hb hr) hr⟩
theorem JC (l : List aD) (i : Nat) (hi : i < l.length) : l.drop i = aa l (i : Int) :: l.drop (i + 1) := by
 rw [List.drop_eq_getElem_cons hi]; simp [aa, hi]
theorem Kz : ∀ (m : List (aD × Bool)) (x : aD) (v : Bool), (lU m x v).length ≤ m.length + 1
 | [], _, _ => by simp [lU]
 | (y, u) :: r, x, v => by
  unfold lU
  split
  · simp
  · have := Kz r x v
    simp; omega
theorem aaz (l : List aD) : (zI l).length ≤ l.length := by
 have h : ∀ (l : List aD) (m : List (aD × Bool)), (l.foldl (fun m p => lU m p true) m).length ≤ m.length + l.length := by
  intro l; induction l with
  | nil => intro m; simp
  | cons p r ih =>
   intro m; have := ih (lU m p true); have := Kz m p true; simp; omega
 simpa [zI] using h l []
theorem Qu : ∀ (l : List aD) (seen there t : List (aD × Bool)), CY l seen there = some t → t.length ≤ there.length + l.length
 | [], seen, there, t, h => by
  obtain rfl : there = t := by simpa [CY] using h
  simp
 | p :: r, seen, there, t, h => by
  unfold CY at h
  split at h
  · cases h
  · have h1 := Qu r _ _ t h
    have h2 := Kz there p (!pq there p)
    simp; omega
theorem TR {W : World} {base b : Nat} {ok : Nat → Prop} {v : Value} {xs : List aD} {es : Array MapEntry} {c : Nat} (h : Kd.R gm 42 W base ok v xs) (hb : W.heap[b]? = some (.map es c)) : some b ≠ v.ownBlock := by
 intro e; obtain ⟨cells, hc⟩ := Kd.nM h b e.symm; rw [hc] at hb; cases hb
theorem Qv {W : World} {base b : Nat} {ok : Nat → Prop} {v : Value} {xs : List aD} {mm : Option Nat} {s c : Nat} {sn : Array Nat} (h : Kd.R gm 42 W base ok v xs) (hb : W.heap[b]? = some (.mapIter mm s sn c)) : some b ≠ v.ownBlock := by
 intro e; obtain ⟨cells, hc⟩ := Kd.nM h b e.symm; rw [hc] at hb; cases hb
theorem adX {W : World} {base b : Nat} {ok : Nat → Prop} {v : Value} {xs : List aD} {o' : Obj} (h : Kd.R gm 42 W base ok v xs) (hb : ∀ k, ok k → k ≠ b) : Kd.R gm 42 (setBlock W b o') base ok v xs :=
 Kd.GX h (fun k ho _ => by rw [qf, if_neg (Ne.symm (hb k ho))])
theorem TS {W : World} {base b : Nat} {ok : Nat → Prop} {v : Value} {xs : List aD} {mm : Option Nat} {s c : Nat} {sn : Array Nat} (h : Kd.R gm 42 W base ok v xs) (hb : W.heap[b]? = some (.mapIter mm s sn c)) : Kd.R gm 42 W base (fun k => ok k ∧ k ≠ b) v xs :=
 Kd.aQ (Kd.qh h) (fun k hk => ⟨hk.1, by
  obtain ⟨_, _, _, q, hq, cells', hc⟩ := hk
  rintro rfl
  rw [hc] at hb
  cases hb⟩)
theorem adY (V : List ((aD × Bool) × Nat)) (m : List (aD × Bool)) (h : V.Perm m.zipIdx) : (nN (V.map (·.1))).Perm (nN m) := by
 have h2 : (V.map (·.1)).Perm m := by
  have h3 := h.map (·.1); rwa [show m.zipIdx.map (·.1) = m from List.zipIdx_map_fst _ _] at h3
 exact (h2.filter _).map _
theorem TT {w W w7 : World} {gb gr go bi bm : Nat} {X Y Z : Obj} {there : List (aD × Bool)} {sA : Array Nat} {v : Value} {O : List aD}
 (T2 : ag (TW w W gb gr X Y)) (M2 : ag (jK W bm there)) (I2 : ag (W.heap[bi]? = some (.mapIter (some bm) there.length sA there.length))) (O2 : ag (W.heap[go]? = some Z)) (R2 : ag (Kd.R gm 42 W w.heap.size (fun _ => True) v O))
 (hw : w7 = W ∨ w7 = W.drew) (qi : Nat) (IB : w.heap.size ≤ bi) (IR : bi ≠ gr) (IG : bi ≠ gb) (IO : bi ≠ go) (IM : bi ≠ bm) :
 ag (TW w (setBlock w7 bi (.mapIter (some bm) there.length (sA.push qi) there.length)) gb gr X Y) ∧ ag (jK (setBlock w7 bi (.mapIter (some bm) there.length (sA.push qi) there.length)) bm there) ∧ ag ((setBlock w7 bi (.mapIter (some bm) there.length (sA.push qi) there.length)).heap[bi]? = some (.mapIter (some bm) there.length (sA.push qi) there.length)) ∧ ag ((setBlock w7 bi (.mapIter (some bm) there.length (sA.push qi) there.length)).heap[go]? = some Z) ∧ ag (Kd.R gm 42 (setBlock w7 bi (.mapIter (some bm) there.length (sA.push qi) there.length)) w.heap.size (fun _ => True) v O) := by
 have hh : w7.heap = W.heap := by rcases hw with rfl | rfl <;> rfl
 have T3 : TW w w7 gb gr X Y := by
  rcases hw with rfl | rfl
  · exact T2.out
  · exact T2.out.drew
 have R3 : Kd.R gm 42 w7 w.heap.size (fun _ => True) v O := by
  rcases hw with rfl | rfl
  · exact R2.out
  · exact Kd.nL R2.out
 have hlt := jq I2.out; have I3 : w7.heap[bi]? = some (.mapIter (some bm) there.length sA there.length) := by rw [hh]; exact I2.out
 refine ⟨⟨T3.aay _ IB IG IR⟩, ⟨jK.other (by unfold jK; rw [hh]; exact M2.out) _ IM⟩, ⟨by rw [qf, if_pos rfl, hh, if_pos hlt]⟩, ⟨by rw [qf, if_neg IO, hh]; exact O2.out⟩, ⟨Kd.aQ (adX (TS R3 I3) (fun k hk => hk.2)) (fun _ hk => hk.1)⟩⟩
section
variable {ops : Array Oper} {rest : List Oper} {o : Oper} {a : Act} {Q : Exit → Act → World → Prop}
theorem YQ {w W : World} {gb gr go bi bm : Nat} {X Y Z : Obj} {there : List (aD × Bool)} {sA : Array Nat} {v : Value} {O : List aD}
 (hg : o.guard = none) (it : Operand) (hop : o.op = Op.next it false) (hit : a.eval it = .pointer (some ⟨bi, 0, none⟩))
 (T2 : ag (TW w W gb gr X Y)) (M2 : ag (jK W bm there)) (I2 : ag (W.heap[bi]? = some (.mapIter (some bm) there.length sA there.length))) (O2 : ag (W.heap[go]? = some Z)) (R2 : ag (Kd.R gm 42 W w.heap.size (fun _ => True) v O))
 (IB : ag (w.heap.size ≤ bi)) (IR : ag (bi ≠ gr)) (IG : ag (bi ≠ gb)) (IO : ag (bi ≠ go)) (IM : ag (bi ≠ bm))
 (hDone : ag (pz there sA = []) → wpList Tryd.prog ops Q rest (a.put o.dst (.tuple #[.bool false])) W)
 (hMore : ∀ (p : aD) (isq : Bool) (qi : Nat), ag (((p, isq), qi) ∈ pz there sA) → ∀ W' : World, ag (TW w W' gb gr X Y) → ag (jK W' bm there) → ag (W'.heap[bi]? = some (.mapIter (some bm) there.length (sA.push qi) there.length)) → ag (W'.heap[go]? = some Z) → ag (Kd.R gm 42 W' w.heap.size (fun _ => True) v O) →
  (Instr.entry (.pointer (some ⟨bi, 0, none⟩))).run Tryd.prog W' = .ok (.tuple #[.agg #[.int .i64 p.f0, .int .i64 p.f1], .bool isq]) W' → wpList Tryd.prog ops Q rest (a.put o.dst (.tuple #[.bool true, .agg #[.int .i64 p.f0, .int .i64 p.f1], .bool isq])) W') :
 wpList Tryd.prog ops Q (o :: rest) a W := by
 refine aaw (m := there) (seen := sA) (bi := bi) (bm := bm) hg it hop hit I2.out M2.out (fun hd => hDone ⟨hd⟩) ?_; rintro ⟨⟨p, isq⟩, qi⟩ hq w7 hw7; obtain ⟨T3, M3, I3, O3, R3⟩ := TT T2 M2 I2 O2 R2 hw7 qi IB.out IR.out IG.out IO.out IM.out; exact hMore p isq qi ⟨hq⟩ _ T3 M3 I3 O3 R3 (YN (q := ((p, isq), qi)) (seen := sA) I3.out M3.out (aax hq))
end
theorem KA (V : List ((aD × Bool) × Nat)) : (nN (V.map (·.1))).length ≤ V.length := by
 unfold nN; rw [List.length_map]; exact Nat.le_trans (List.length_filter_le _ _) (by simp)
theorem adZ {V L : List ((aD × Bool) × Nat)} {m : List (aD × Bool)} (h : (V ++ L).Perm m.zipIdx) : V.length ≤ m.length := by
 have h2 := h.length_eq; simp at h2; omega
theorem Qw (V : List ((aD × Bool) × Nat)) (p : aD) (q : Nat) : nN ((V ++ [((p, true), q)]).map (·.1)) = nN (V.map (·.1)) ++ [p] := by
 simp [nN]
theorem Qx (V : List ((aD × Bool) × Nat)) (p : aD) (q : Nat) : nN ((V ++ [((p, false), q)]).map (·.1)) = nN (V.map (·.1)) := by
 simp [nN]
theorem Qy {V : List ((aD × Bool) × Nat)} {m : List (aD × Bool)} {sA : Array Nat} {x : (aD × Bool) × Nat} (hx : x ∈ pz m sA) (h : (V ++ pz m sA).Perm m.zipIdx) : ((V ++ [x]) ++ pz m (sA.push x.2)).Perm m.zipIdx := by
 refine List.Perm.trans ?_ h; rw [List.append_assoc]; exact List.Perm.append_left V (MR m sA x hx).symm
theorem CZ {m : List (aD × Bool)} {sA : Array Nat} {x : (aD × Bool) × Nat} (hx : x ∈ pz m sA) : (pz m sA).length = (pz m (sA.push x.2)).length + 1 := by
 have := (MR m sA x hx).length_eq; simpa using this
theorem jK.far {W : World} {b : Nat} {m : List (aD × Bool)} (h : jK W b m) {p : Addr} (hn : b ≠ p.block) (u : Value) : jK (W.setCell p u) b m := (Below.heap_setCell W p u b hn).trans h
theorem KC {W : World} {b : Nat} {o : Obj} (h : W.heap[b]? = some o) {p : Addr} (hn : b ≠ p.block) (u : Value) : (W.setCell p u).heap[b]? = some o := (Below.heap_setCell W p u b hn).trans h
theorem YR {w W : World} {gb gr go bi bm : Nat} {X Y : Obj} {there : List (aD × Bool)} {sn : Array Nat} {n v v9 : Value} {O : List aD}
 (T5 : ag (TW w W gb gr X Y)) (M5 : ag (jK W bm there)) (I5 : ag (W.heap[bi]? = some (.mapIter (some bm) there.length sn there.length))) (O5 : ag (W.heap[go]? = some (.cells #[n, v] 24 (0, 0)))) (R5 : ag (Kd.R gm 42 W w.heap.size (fun _ => True) v9 O))
 (OB : w.heap.size ≤ go) (OR : go ≠ gr) (OG : go ≠ gb) (OM : go ≠ bm) (IO : bi ≠ go) :
 ag (TW w (W.setCell ⟨go, 1, none⟩ v9) gb gr X Y) ∧ ag (jK (W.setCell ⟨go, 1, none⟩ v9) bm there) ∧ ag ((W.setCell ⟨go, 1, none⟩ v9).heap[bi]? = some (.mapIter (some bm) there.length sn there.length)) ∧ ag ((W.setCell ⟨go, 1, none⟩ v9).heap[go]? = some (.cells #[n, v9] 24 (0, 0))) ∧ ag (Kd.R gm 42 (W.setCell ⟨go, 1, none⟩ v9) w.heap.size (fun _ => True) v9 O) :=
 ⟨⟨⟨bG T5.out.hb OB, KC T5.out.bg (Ne.symm OG) _, KC T5.out.br (Ne.symm OR) _⟩⟩, ⟨jK.far M5.out (Ne.symm OM) _⟩, ⟨KC I5.out IO _⟩, ⟨aV O5.out 1 v9 rfl⟩, ⟨Kd.aQ (Kd.aT (Kd.bJ R5.out O5.out (by decide)) (fun k hk => hk.2) _) (fun _ hk => hk.1)⟩⟩
theorem ad1 {w W : World} {gr : Nat} {P : Nat → Prop} {n v : Value} {O : List aD} (hb : Below w.heap.size w W) (br : W.heap[gr]? = some (.cells #[.int .i64 0, .slice none 0 0] 24 (0, 0))) (hr : w.heap.size ≤ gr) (R : Kd.R gm 42 W w.heap.size P v O) :
 ((W.setCell ⟨gr, 0, none⟩ n).setCell ⟨gr, 1, none⟩ v).heap[gr]? = some (.cells #[n, v] 24 (0, 0)) ∧ Below w.heap.size w ((W.setCell ⟨gr, 0, none⟩ n).setCell ⟨gr, 1, none⟩ v) ∧ Kd.R gm 42 ((W.setCell ⟨gr, 0, none⟩ n).setCell ⟨gr, 1, none⟩ v) w.heap.size (fun _ => True) v O :=
 ⟨aV (aV br 0 n rfl) 1 v rfl, bG (bG hb hr) hr, Kd.aQ (Kd.aT (Kd.aT (Kd.bJ R br (by decide)) (fun k hk => hk.2) _) (fun k hk => hk.2) _) (fun _ _ => trivial)⟩
theorem aaA {V : List ((aD × Bool) × Nat)} {there : List (aD × Bool)} {sA : Array Nat} (HD : pz there sA = []) (HP : (V ++ pz there sA).Perm there.zipIdx) (hl : there.length < 1000000) : kS.f (nN (V.map (·.1))) = some (Oj (nN there)) := by
 rw [HD, List.append_nil] at HP; have h1 := KA V; have h2 := HP.length_eq; simp at h2; unfold kS.f; rw [if_pos (by omega), Ku, Ku, YI (adY V there HP)]
theorem gB.calls (k : Nat) (au : Int) (aZ : Option Addr) (aW : Nat) (ah : List aD) (A1 : Option Addr) (c1 : Nat) (l1 : List aD) (r1 : Int) (r2 : List aD) (r3 : Int) (w : World) (eY : Kd.C gm w aZ ah.length ah) (eZ : ah.length ≤ aW) (hr1 : Kd.C gm w A1 l1.length l1) (hc1 : l1.length ≤ c1) (h : gB.f k au ah l1 = some (r1, r2, r3)) :
 Calls Tryd.prog 21 #[.agg #[.int .i64 au, .slice aZ ah.length aW], .slice A1 l1.length c1] w fun e w' => ∃ C8 : Value, e = .returned (.tuple #[.agg #[.int .i64 r1, C8], .int .i64 r3]) ∧ Kd.R gm 42 w' w.heap.size (fun _ => True) C8 r2 ∧ Below w.heap.size w w' := by
 have uk := Tryd.underlying24; have wV := Tryd.underlying42; have uh := zA eY; have EK := zA eZ; have HR1 := zA hr1; have rX := zA hc1; clear eY eZ hr1 hc1; have H := h; clear h; unfold gB.f at H; obtain ⟨t, hV, H⟩ := Option.bind_eq_some_iff.1 H; have HV := zA hV; clear hV; by_cases ht : t = 0
 · subst ht; rw [if_pos rfl] at H; by_cases hlen : ah.length + l1.length < 1000000
   case neg => rw [if_neg hlen] at H; cases H
   rw [if_pos hlen] at H; have H' := zA H; have HLEN := zA hlen; clear H hlen; go_enter Tryd.func21, Tryd.ntmps21; go_wp2_with fail
   have T0 : TW w ((w.alloc (.cells #[.int .i64 au, .slice aZ ah.length aW] 24)).alloc (.cells #[.int .i64 0, .slice none 0 0] 24)) w.heap.size (w.heap.size + 1) (.cells #[.int .i64 au, .slice aZ ah.length aW] 24 (0, 0)) (.cells #[.int .i64 0, .slice none 0 0] 24 (0, 0)) :=
    ⟨bB (bB (Below.refl _ _) _) _, je (lC w _) _, by have := lC (w.alloc (.cells #[.int .i64 au, .slice aZ ah.length aW] 24)) (.cells #[.int .i64 0, .slice none 0 0] 24 (0, 0)); simpa using this⟩
   refine (aX.calls k au _ _ ah 0 _ (Kd.bu uh.out T0.hb) EK.out HV.out).mono ?_; rintro e w1 ⟨rfl, hb⟩; have T1 := zA (T0.step hb); have GR : ag (w.heap.size ≤ w.heap.size + 1) := ⟨Nat.le_succ w.heap.size⟩; have GN : ag (w.heap.size ≠ w.heap.size + 1) := ⟨Nat.ne_of_lt (Nat.lt_succ_self w.heap.size)⟩; clear T0 hb; generalize hgr : w.heap.size + 1 = gr at T1 GR GN ⊢; generalize hgb : w.heap.size = gb at T1 GN ⊢; clear hgr; have GB : ag (w.heap.size ≤ gb) := ⟨Nat.le_of_eq hgb⟩; clear hgb; have hmm := @run_makeMap Tryd.prog; go_upto_region 5 with (fail)
   clear hmm; have M2 : ag (jK (w1.alloc (.map #[] 0)) w1.heap.size []) := ⟨lC w1 _⟩; have T2 := zA (T1.out.alloc (.map #[] 0)); have BM : ag (w.heap.size ≤ w1.heap.size) := ⟨T1.out.hb.size⟩; have BN : ag (w1.heap.size ≠ gb) := ⟨Nat.ne_of_gt (jq T1.out.bg)⟩; have BR : ag (w1.heap.size ≠ gr) := ⟨Nat.ne_of_gt (jq T1.out.br)⟩; clear T1; generalize w1.alloc (.map #[] 0) = w2 at M2 T2 ⊢; generalize w1.heap.size = bm at M2 BM BN BR ⊢; have tY : w2.cell? ⟨gb, 0, none⟩ = some (.int .i64 au) := (ai T2.out.bg 0).trans rfl; have uU : w2.cell? ⟨gb, 1, none⟩ = some (.slice aZ ah.length aW) := (ai T2.out.bg 1).trans rfl; go_wp2_with fail; clear tY uU; go_loopg [28] ah.length (fun kq v28 w' => ∃ i : Nat, v28 = .int .i64 i ∧ ag (kq + i = ah.length) ∧ ag (TW w w' gb gr (.cells #[.int .i64 au, .slice aZ ah.length aW] 24 (0, 0)) (.cells #[.int .i64 0, .slice none 0 0] 24 (0, 0))) ∧ ag (jK w' bm (zI (ah.take i))))
   case atStart => exact ⟨0, rfl, ⟨rfl⟩, T2, M2⟩
   case round =>
    clear T2 M2; obtain ⟨i, rfl, HI, T2, M2⟩ := hrel; cases gk with
    | succ k1 =>
     have hi : i < ah.length := by have := HI.out; omega
     have hl : ah.length ≤ 9223372036854775807 := uh.out.2.1; obtain ⟨ad, e0, hx0, hx1⟩ := eG (Kd.bu uh.out T2.out.hb) (i : Int) (by omega) (by omega); simp only [Int.toNat_natCast] at hx0 hx1; have hi0 : decide (i < ah.length) = true := decide_eq_true hi; have hi1 : decide ((i : Int) < (ah.length : Int)) = true := decide_eq_true (by omega); cases e0; go_upto_region 8 with (fail)
     have hup := Bn (M2.out.alloc (.cells #[.int .i64 (aa ah i).f0, .int .i64 (aa ah i).f1] 42)) (aa ah i) true; simp only [uJ] at hup; have T3 := zA ((T2.out.alloc (.cells #[.int .i64 (aa ah i).f0, .int .i64 (aa ah i).f1] 42)).aay (b := bm) (.map (qH (lU (zI (ah.take i)) (aa ah i) true) 0).toArray (lU (zI (ah.take i)) (aa ah i) true).length) BM.out BN.out BR.out); have M3 := zA ((M2.out.alloc (.cells #[.int .i64 (aa ah i).f0, .int .i64 (aa ah i).f1] 42)).put (lU (zI (ah.take i)) (aa ah i) true)); clear T2 M2 hx0 hx1; generalize setBlock (wr.alloc (.cells #[.int .i64 (aa ah i).f0, .int .i64 (aa ah i).f1] 42)) bm (.map (qH (lU (zI (ah.take i)) (aa ah i) true) 0).toArray (lU (zI (ah.take i)) (aa ah i) true).length) = w3 at hup T3 M3; rw [YP ah i hi] at M3; go_wp2; go_roundg k1
     case measure => omega
     case rel => exact ⟨i + 1, by go_num, ⟨by have := HI.out; omega⟩, T3, M3⟩
    | zero =>
     have hi : i = ah.length := by have := HI.out; omega
     subst hi; rw [List.take_length] at M2; have hi0 : decide (ah.length < ah.length) = false := by simp
     have hi1 : decide ((ah.length : Int) < (ah.length : Int)) = false := by simp
     go_wp2_with fail; clear hi0 hi1; go_loopg [37] l1.length (fun kq v37 w' => ∃ i : Nat, v37 = .int .i64 i ∧ ag (kq + i = l1.length) ∧ ag (TW w w' gb gr (.cells #[.int .i64 au, .slice aZ ah.length aW] 24 (0, 0)) (.cells #[.int .i64 0, .slice none 0 0] 24 (0, 0))) ∧ ag (jK w' bm (zI ah)) ∧ ag ((l1.take i).any (su au) = false))
     case atStart => exact ⟨0, rfl, ⟨rfl⟩, T2, M2, ⟨rfl⟩⟩
     case round =>
      clear T2 M2 HI; obtain ⟨i, rfl, HI, T2, M2, HA⟩ := hrel; cases gk with
      | succ k1 =>
       have hi : i < l1.length := by have := HI.out; omega
       have hl : l1.length ≤ 9223372036854775807 := HR1.out.2.1; obtain ⟨ad, e0, hx0, hx1⟩ := eG (Kd.bu HR1.out T2.out.hb) (i : Int) (by omega) (by omega); simp only [Int.toNat_natCast] at hx0 hx1; have hi0 : decide (i < l1.length) = true := decide_eq_true hi; have hi1 : decide ((i : Int) < (l1.length : Int)) = true := decide_eq_true (by omega); cases e0; go_upto_region 13 with (fail)
       have T3 := zA (T2.out.alloc (.cells #[.int .i64 (aa l1 i).f0, .int .i64 (aa l1 i).f1] 42)); have M3 := zA (M2.out.alloc (.cells #[.int .i64 (aa l1 i).f0, .int .i64 (aa l1 i).f1] 42)); have P3 := zA (lC wr (.cells #[.int .i64 (aa l1 i).f0, .int .i64 (aa l1 i).f1] 42 (0, 0))); clear T2 M2 hx0 hx1; generalize wr.alloc (.cells #[.int .i64 (aa l1 i).f0, .int .i64 (aa l1 i).f1] 42) = w3 at T3 M3 P3 ⊢; generalize wr.heap.size = gp at P3 ⊢; have tY : w3.cell? ⟨gb, 0, none⟩ = some (.int .i64 au) := (ai T3.out.bg 0).trans rfl; have uU := zc P3 0; have hcz2 := zc P3 1; have aaB := bU T3.out.br 0; have aaC := bU T3.out.br 1; have HS := V4 l1 i hi; generalize aa l1 i = p at HS uU hcz2 P3 ⊢; have TU : w3.cell? ⟨gr, 0, none⟩ = some (.int .i64 0) := (ai T3.out.br 0).trans rfl; have ai2 : w3.cell? ⟨gr, 1, none⟩ = some (.slice none 0 0) := (ai T3.out.br 1).trans rfl
       have hb1 : su au p = true ∨ (decide (p.f0 < 0) = false ∧ decide (p.f0 ≥ au) = false ∧ decide (p.f1 < 0) = false ∧ decide (p.f1 ≥ au) = false) := by
        unfold su; cases decide (p.f0 < 0) <;> cases decide (p.f0 ≥ au) <;> cases decide (p.f1 < 0) <;> cases decide (p.f1 ≥ au) <;> simp
       rcases hb1 with hb1 | ⟨g1, g2, g3, g4⟩
       · have HBAD := zA hb1
         have hb2 : (decide (p.f0 < 0) = true) ∨ (decide (p.f0 < 0) = false ∧ decide (p.f0 ≥ au) = true) ∨ (decide (p.f0 < 0) = false ∧ decide (p.f0 ≥ au) = false ∧ decide (p.f1 < 0) = true) ∨ (decide (p.f0 < 0) = false ∧ decide (p.f0 ≥ au) = false ∧ decide (p.f1 < 0) = false ∧ decide (p.f1 ≥ au) = true) := by
          unfold su at hb1; revert hb1; cases decide (p.f0 < 0) <;> cases decide (p.f0 ≥ au) <;> cases decide (p.f1 < 0) <;> cases decide (p.f1 ≥ au) <;> simp
         clear hb1
         have hbad : l1.any (su au) = true := by
          rw [← List.take_append_drop (i + 1) l1, List.any_append, HS, List.any_append]; simp [HBAD.out]
         have HX := H'.out; rw [if_pos hbad] at HX; simp only [Option.some.injEq, Prod.mk.injEq] at HX; obtain ⟨rfl, rfl, rfl⟩ := HX; have HE := zA (Ol T3.out GR.out); clear H' HS hbad HBAD HA; rcases hb2 with g1 | ⟨g1, g2⟩ | ⟨g1, g2, g3⟩ | ⟨g1, g2, g3, g4⟩
         all_goals go_wp2
         all_goals refine bodyPost_ret (iw rfl _ _ gr 24 #[.int .i64 0, .slice none 0 0] (0, 0) _ rfl HE.out.1 Tryd.underlying24 rfl (by kernel_rfl)) rfl ?_
         all_goals exact ⟨_, rfl, Kd.wJ _ _ _ _ _, HE.out.2⟩
       · go_wp2; go_roundg k1
         case measure => omega
         case rel => exact ⟨i + 1, by go_num, ⟨by have := HI.out; omega⟩, T3, M3, ⟨by rw [HS, List.any_append, HA.out]; simp [su, g1, g2, g3, g4]⟩⟩
      | zero =>
       have hi : i = l1.length := by have := HI.out; omega
       subst hi; rw [List.take_length] at HA; have hi0 : decide (l1.length < l1.length) = false := by simp
       have hi1 : decide ((l1.length : Int) < (l1.length : Int)) = false := by simp
       have HX := H'.out; rw [HA.out, if_neg (by simp)] at HX; have HY := zA (Option.some.inj HX); clear H' HX HA; have hmm := @run_makeMap Tryd.prog; go_upto_region 17 with (fail)
       clear hmm; have M3 := zA (M2.out.alloc (.map #[] 0)); have T3 := zA (T2.out.alloc (.map #[] 0)); have S3 : ag (jK (wr.alloc (.map #[] 0)) wr.heap.size []) := ⟨lC wr _⟩; have SM : ag (w.heap.size ≤ wr.heap.size) := ⟨T2.out.hb.size⟩; have SN : ag (wr.heap.size ≠ gb) := ⟨Nat.ne_of_gt (jq T2.out.bg)⟩; have SR : ag (wr.heap.size ≠ gr) := ⟨Nat.ne_of_gt (jq T2.out.br)⟩; have SB : ag (wr.heap.size ≠ bm) := ⟨Nat.ne_of_gt (jq M2.out)⟩; clear T2 M2 hi0 hi1; generalize wr.alloc (.map #[] 0) = w4 at M3 T3 S3 ⊢; generalize wr.heap.size = bs at S3 SM SN SR SB ⊢; go_wp2_with fail; go_loopg [68] l1.length (fun kq v68 w' => ∃ (i : Nat) (seen there : List (aD × Bool)), v68 = .int .i64 i ∧ ag (kq + i = l1.length) ∧ ag (TW w w' gb gr (.cells #[.int .i64 au, .slice aZ ah.length aW] 24 (0, 0)) (.cells #[.int .i64 0, .slice none 0 0] 24 (0, 0))) ∧ ag (jK w' bm there) ∧ ag (jK w' bs seen) ∧ ag (CY (l1.drop i) seen there = CY l1 [] (zI ah)))
       case atStart => exact ⟨0, _, _, rfl, ⟨rfl⟩, T3, M3, S3, ⟨rfl⟩⟩
       case round =>
        clear T3 M3 S3 HI; obtain ⟨i, seen, there, rfl, HI, T2, M2, S2, HA⟩ := hrel; cases gk with
        | succ k1 =>
         have hi : i < l1.length := by have := HI.out; omega
         have hl : l1.length ≤ 9223372036854775807 := HR1.out.2.1; obtain ⟨ad, e0, hx0, hx1⟩ := eG (Kd.bu HR1.out T2.out.hb) (i : Int) (by omega) (by omega); simp only [Int.toNat_natCast] at hx0 hx1; have hi0 : decide (i < l1.length) = true := decide_eq_true hi; have hi1 : decide ((i : Int) < (l1.length : Int)) = true := decide_eq_true (by omega); cases e0; go_upto_region 20 with (fail)
         have T3 := zA (T2.out.alloc (.cells #[.int .i64 (aa l1 i).f0, .int .i64 (aa l1 i).f1] 42)); have M3 := zA (M2.out.alloc (.cells #[.int .i64 (aa l1 i).f0, .int .i64 (aa l1 i).f1] 42)); have S3 := zA (S2.out.alloc (.cells #[.int .i64 (aa l1 i).f0, .int .i64 (aa l1 i).f1] 42)); have P3 := zA (lC wr (.cells #[.int .i64 (aa l1 i).f0, .int .i64 (aa l1 i).f1] 42 (0, 0))); have PB : ag (wr.heap.size ≠ bs) := ⟨Nat.ne_of_gt (jq S2.out)⟩; clear T2 M2 S2 hx0 hx1; generalize wr.alloc (.cells #[.int .i64 (aa l1 i).f0, .int .i64 (aa l1 i).f1] 42) = w3 at T3 M3 S3 P3 ⊢; generalize wr.heap.size = gp at P3 PB ⊢; have HS := zA (JC l1 i hi); generalize aa l1 i = p at HS P3 ⊢; have uU := zc P3 0; have hcz2 := zc P3 1; have hlk := Bl S3.out p; simp only [uJ] at hlk; cases hm : pq seen p with
         | true =>
          rw [hm] at hlk; have hz : CY (l1.drop i) seen there = none := by rw [HS.out]; simp [CY, hm]
          have HX := HY.out; rw [← HA.out, hz] at HX; simp only [TQ, Prod.mk.injEq] at HX; obtain ⟨rfl, rfl, rfl⟩ := HX; have HE := zA (Ol T3.out GR.out); have TU : w3.cell? ⟨gr, 0, none⟩ = some (.int .i64 0) := (ai T3.out.br 0).trans rfl; have ai2 : w3.cell? ⟨gr, 1, none⟩ = some (.slice none 0 0) := (ai T3.out.br 1).trans rfl; have aaB := bU T3.out.br 0; have aaC := bU T3.out.br 1; clear hz HA HY HS hm; go_wp2; refine bodyPost_ret (iw rfl _ _ gr 24 #[.int .i64 0, .slice none 0 0] (0, 0) _ rfl HE.out.1 Tryd.underlying24 rfl (by kernel_rfl)) rfl ?_; exact ⟨_, rfl, Kd.wJ _ _ _ _ _, HE.out.2⟩
         | false =>
          rw [hm] at hlk; go_upto_region 22 with (fail)
          have hlk2 := Bl (W := w3.drew) (show jK w3.drew bm there from M3.out) p; have aaD := Bn (W := w3.drew) (show jK w3.drew bs seen from S3.out) p true; have S4 := zA (jK.put (W := w3.drew) (show jK w3.drew bs seen from S3.out) (lU seen p true)); have M4 := zA (jK.other (W := w3.drew) (show jK w3.drew bm there from M3.out) (.map (qH (lU seen p true) 0).toArray (lU seen p true).length) SB.out); have T4 := zA (TW.aay (W := w3.drew) T3.out.drew (.map (qH (lU seen p true) 0).toArray (lU seen p true).length) SM.out SN.out SR.out); have E9 : w3.drew.cell? ⟨gp, 0, none⟩ = some (.int .i64 p.f0) := uU; have Qz : w3.drew.cell? ⟨gp, 1, none⟩ = some (.int .i64 p.f1) := hcz2; have P5 : (setBlock w3.drew bs (.map (qH (lU seen p true) 0).toArray (lU seen p true).length)).heap[gp]? = some (.cells #[.int .i64 p.f0, .int .i64 p.f1] 42 (0, 0)) := by rw [qf, if_neg (Ne.symm PB.out)]; exact P3.out
          simp only [uJ] at hlk2 aaD; clear uU hcz2 hlk; generalize hw5 : setBlock w3.drew bs (.map (qH (lU seen p true) 0).toArray (lU seen p true).length) = w5 at aaD S4 M4 T4 P5; have aBp : w5.cell? ⟨gp, 0, none⟩ = some (.int .i64 p.f0) := (ai P5 0).trans rfl; have aBq : w5.cell? ⟨gp, 1, none⟩ = some (.int .i64 p.f1) := (ai P5 1).trans rfl; have atC := Bl M4.out p; simp only [uJ] at atC; clear P5; have anc := Bn M4.out p (!pq there p); have M6 := zA (M4.out.put (lU there p (!pq there p))); have S6 := zA (S4.out.other (.map (qH (lU there p (!pq there p)) 0).toArray (lU there p (!pq there p)).length) (Ne.symm SB.out)); have T6 := zA (T4.out.aay (.map (qH (lU there p (!pq there p)) 0).toArray (lU there p (!pq there p)).length) BM.out BN.out BR.out); simp only [uJ] at anc; generalize setBlock w5 bm (.map (qH (lU there p (!pq there p)) 0).toArray (lU there p (!pq there p)).length) = w6 at anc S6 M6 T6; clear hw5
          have HN : ag (CY (l1.drop (i + 1)) (lU seen p true) (lU there p (!pq there p)) = CY l1 [] (zI ah)) := ⟨by
           rw [← HA.out, HS.out]; simp [CY, hm]⟩
          clear HA HS hm; go_region; go_wp2; go_roundg k1
          case measure => omega
          case rel => exact ⟨i + 1, _, _, by go_num, ⟨by have := HI.out; omega⟩, T6, M6, S6, HN⟩
        | zero =>
         have hi : i = l1.length := by have := HI.out; omega
         subst hi; rw [List.drop_length] at HA; have hi0 : decide (l1.length < l1.length) = false := by simp
         have hi1 : decide ((l1.length : Int) < (l1.length : Int)) = false := by simp
         have HX := HY.out; rw [← HA.out] at HX; simp only [CY, TQ, Prod.mk.injEq] at HX; obtain ⟨rfl, rfl, rfl⟩ := HX; clear HY S2; have tY : wr.cell? ⟨gb, 0, none⟩ = some (.int .i64 au) := (ai T2.out.bg 0).trans rfl; go_upto_region 25 with (fail)
         have HTL : ag (there.length < 1000000) := ⟨by
          have h1 := Qu l1 [] (zI ah) there (by rw [← HA.out]; rfl); have h2 := aaz ah; have h3 := HLEN.out; omega⟩
         clear HA; have T3 := zA (T2.out.alloc (.cells #[.int .i64 au, .slice none 0 0] 24)); have M3 := zA (M2.out.alloc (.cells #[.int .i64 au, .slice none 0 0] 24)); have O3 := zA (lC wr (.cells #[.int .i64 au, .slice none 0 0] 24 (0, 0))); have OB : ag (w.heap.size ≤ wr.heap.size) := ⟨T2.out.hb.size⟩; have OR : ag (wr.heap.size ≠ gr) := ⟨Nat.ne_of_gt (jq T2.out.br)⟩; have OG : ag (wr.heap.size ≠ gb) := ⟨Nat.ne_of_gt (jq T2.out.bg)⟩; have OM : ag (wr.heap.size ≠ bm) := ⟨Nat.ne_of_gt (jq M2.out)⟩; clear T2 M2 tY; generalize wr.alloc (.cells #[.int .i64 au, .slice none 0 0] 24) = w5 at T3 M3 O3 ⊢; generalize wr.heap.size = go at O3 OB OR OG OM ⊢; have hrg := YO M3.out; have T4 := zA (T3.out.alloc (.mapIter (some bm) there.length #[] there.length)); have M4 := zA (M3.out.alloc (.mapIter (some bm) there.length #[] there.length)); have O4 := zA (je O3.out (.mapIter (some bm) there.length #[] there.length)); have I4 := zA (lC w5 (.mapIter (some bm) there.length #[] there.length)); have IB : ag (w.heap.size ≤ w5.heap.size) := ⟨T3.out.hb.size⟩; have IR : ag (w5.heap.size ≠ gr) := ⟨Nat.ne_of_gt (jq T3.out.br)⟩; have IG : ag (w5.heap.size ≠ gb) := ⟨Nat.ne_of_gt (jq T3.out.bg)⟩; have IO : ag (w5.heap.size ≠ go) := ⟨Nat.ne_of_gt (jq O3.out)⟩; have IM : ag (w5.heap.size ≠ bm) := ⟨Nat.ne_of_gt (jq M3.out)⟩; clear T3 M3 O3; generalize w5.alloc (.mapIter (some bm) there.length #[] there.length) = w6 at hrg T4 M4 O4 I4; generalize w5.heap.size = bi at hrg I4 IB IR IG IO IM; go_wp2_with fail; clear hrg; go_loopg [] there.length (fun kq w' => ∃ (V : List ((aD × Bool) × Nat)) (sA : Array Nat) (v : Value), ag (kq = (pz there sA).length) ∧ ag ((V ++ pz there sA).Perm there.zipIdx) ∧ ag (TW w w' gb gr (.cells #[.int .i64 au, .slice aZ ah.length aW] 24 (0, 0)) (.cells #[.int .i64 0, .slice none 0 0] 24 (0, 0))) ∧ ag (jK w' bm there) ∧ ag (w'.heap[bi]? = some (.mapIter (some bm) there.length sA there.length)) ∧ ag (w'.heap[go]? = some (.cells #[.int .i64 au, v] 24 (0, 0))) ∧ ag (Kd.R gm 42 w' w.heap.size (fun _ => True) v (nN (V.map (·.1)))))
         case atStart => exact ⟨[], #[], .slice none 0 0, ⟨by rw [Kw]; simp⟩, ⟨by rw [Kw]; exact List.Perm.refl _⟩, T4, M4, I4, O4, ⟨Kd.wJ _ _ _ _ _⟩⟩
         case round =>
          clear T4 M4 I4 O4 HI; obtain ⟨V, sA, v, HK, HP, T2, M2, I2, O2, R2⟩ := hrel; have YS := zc O2 0; have YT := zc O2 1; have HVL := zA (Nat.le_trans (KA V) (adZ HP.out))
          go_wp2_with (first
           | ((with_reducible refine aH (N := 90) rfl ?_); refine YQ rfl (.tmp 89) rfl rfl T2 M2 I2 O2 R2 IB IR IG IO IM ?hD ?hM; (case' hD => (intro HD)); (case' hM => (intro p isq qi HQ w8 T3 M3 I3 O3 R3 hen; clear T2 M2 I2 O2 R2 YS YT; (obtain ⟨k1, hk1⟩ : ∃ k1, gk = k1 + 1 := ⟨_, HK.out.trans (CZ HQ.out)⟩); subst hk1; have T4 := zA (T3.out.alloc (.cells #[.int .i64 p.f0, .int .i64 p.f1] 42)); have M4 := zA (M3.out.alloc (.cells #[.int .i64 p.f0, .int .i64 p.f1] 42)); have I4 := zA (je I3.out (.cells #[.int .i64 p.f0, .int .i64 p.f1] 42)); have O4 := zA (je O3.out (.cells #[.int .i64 p.f0, .int .i64 p.f1] 42)); have R4 := zA (Kd.NW R3.out (.cells #[.int .i64 p.f0, .int .i64 p.f1] 42)); clear T3 M3 I3 O3 R3; have YS : (w8.alloc (.cells #[.int .i64 p.f0, .int .i64 p.f1] 42)).cell? ⟨go, 0, none⟩ = some (.int .i64 au) := (ai O4.out 0).trans rfl; have YT : (w8.alloc (.cells #[.int .i64 p.f0, .int .i64 p.f1] 42)).cell? ⟨go, 1, none⟩ = some v := (ai O4.out 1).trans rfl; (cases isq))))
           | ((with_reducible refine fZ (b := .append) (xs := #[.tmp 97, .tmp 99]) rfl ?_); at_builtin; refine Kd.oz gm (w0 := w) w.heap.size rfl (.tmp 97) (.tmp 99) 22 42 (.agg #[(.int .i64 0), (.int .i64 0)]) 16 rfl Tryd.underlying22 nA rfl (by decide) (by omega) v (nN (V.map (·.1))) p [.int .i64 p.f0, .int .i64 p.f1] (fun _ => True) (fun _ => False) rfl (congrArg (fun n => Value.slice (some ⟨n, 0, none⟩) 1 1) (Array.size_push ..).symm) (mR _ _ _ p) (fun _ hk => hk.elim) (fun _ _ => trivial) R4.out T4.out.hb T4.out.hb.size ?aL ?_; (case aL => have := HVL.out; have := HTL.out; omega); intro v9 w9 ho hb hg hat; have T5 : ag (TW w w9 gb gr (.cells #[.int .i64 au, .slice aZ ah.length aW] 24 (0, 0)) (.cells #[.int .i64 0, .slice none 0 0] 24 (0, 0))) := ⟨⟨hb, bZ T4.out.bg hg (Kd.oK R4.out T4.out.bg (by decide)), bZ T4.out.br hg (Kd.oK R4.out T4.out.br (by decide))⟩⟩; have M5 : ag (jK w9 bm there) := ⟨(hg.block bm (jq M4.out) (TR R4.out M4.out)).trans M4.out⟩; have I5 : ag (w9.heap[bi]? = some (.mapIter (some bm) there.length (sA.push qi) there.length)) := ⟨(hg.block bi (jq I4.out) (Qv R4.out I4.out)).trans I4.out⟩; have O5 := zA (bZ O4.out hg (Kd.oK R4.out O4.out (by decide))); have R5 := zA ho; (obtain ⟨A9, c9, hv9⟩ := Kd.bD R5.out); subst hv9; clear ho hb hg hat T4 M4 I4 O4 R4 YS YT; have YS := zc O5 0; have YT := zc O5 1; have aBs := bU O5.out 1)
           | (go_at_call 42; refine (kS.calls (fun k_ => some k_ = v.ownBlock) v (nN (V.map (·.1))) (Oj (nN there)) w wr T2.out.hb (Kd.wS rfl R2.out) (aaA HD.out HP.out HTL.out)).mono ?_; rintro e wz ⟨rfl, R3, hb3, hk3⟩; have O3 := zA (yg O2.out hk3 (Kd.oK R2.out O2.out (by decide))); have Q3 := zA (yg T2.out.br hk3 (Kd.oK R2.out T2.out.br (by decide))); (obtain ⟨Av, cv, hv⟩ := Kd.bD R3); subst hv; have R4 := zA R3; have B4 := zA hb3; clear R3 hb3 hk3 T2 M2 I2 O2 R2 YS YT HP HK HVL HD; have YS := zc O3 0; have YT := (ai O3.out 1).trans rfl; have TU := zc Q3 0; have ai2 := zc Q3 1; have aaB := bU Q3.out 0; have aaC := bU Q3.out 1))
          · go_roundg k1
            case measure => have := HK.out.trans (CZ HQ.out); simp at this; omega
            case rel => exact ⟨V ++ [((p, false), qi)], sA.push qi, v, ⟨by have := HK.out.trans (CZ HQ.out); simp at this; omega⟩, ⟨Qy HQ.out HP.out⟩, T4, M4, I4, O4, by rw [Qx]; exact R4⟩
          · obtain ⟨T6, M6, I6, O6, R6⟩ := YR T5 M5 I5 O5 R5 OB.out OR.out OG.out OM.out IO.out; have hLp : (nN (V.map (·.1)) ++ [p]).length = (nN (V.map (·.1))).length + 1 := List.length_append; rw [hLp] at T6 M6 I6 O6 R6; go_roundg k1
            case measure => have := HK.out.trans (CZ HQ.out); simp at this; omega
            case rel => exact ⟨V ++ [((p, true), qi)], sA.push qi, .slice A9 _ c9, ⟨by have := HK.out.trans (CZ HQ.out); simp at this; omega⟩, ⟨Qy HQ.out HP.out⟩, T6, M6, I6, O6, by rw [Qw]; exact R6⟩
          · obtain ⟨E1, E2, E3⟩ := ad1 (n := .int .i64 au) B4.out Q3.out GR.out R4.out; refine bodyPost_ret (iw rfl _ _ gr 24 #[.int .i64 au, .slice Av _ cv] (0, 0) _ rfl E1 Tryd.underlying24 rfl (by kernel_rfl)) rfl ?_; exact ⟨_, rfl, E3, E2⟩
 · rw [if_neg ht] at H; simp only [Option.some.injEq, Prod.mk.injEq] at H; obtain ⟨rfl, rfl, rfl⟩ := H; go_enter Tryd.func21, Tryd.ntmps21; go_wp2_with fail
   have T0 : TW w ((w.alloc (.cells #[.int .i64 au, .slice aZ ah.length aW] 24)).alloc (.cells #[.int .i64 0, .slice none 0 0] 24)) w.heap.size (w.heap.size + 1) (.cells #[.int .i64 au, .slice aZ ah.length aW] 24 (0, 0)) (.cells #[.int .i64 0, .slice none 0 0] 24 (0, 0)) :=
    ⟨bB (bB (Below.refl _ _) _) _, je (lC w _) _, by have := lC (w.alloc (.cells #[.int .i64 au, .slice aZ ah.length aW] 24)) (.cells #[.int .i64 0, .slice none 0 0] 24 (0, 0)); simpa using this⟩
   refine (aX.calls k au _ _ ah t _ (Kd.bu uh.out T0.hb) EK.out HV.out).mono ?_; rintro e w1 ⟨rfl, hb⟩; have T1 := zA (T0.step hb); have GR : ag (w.heap.size ≤ w.heap.size + 1) := ⟨Nat.le_succ w.heap.size⟩; have GN : ag (w.heap.size ≠ w.heap.size + 1) := ⟨Nat.ne_of_lt (Nat.lt_succ_self w.heap.size)⟩; clear T0 hb; generalize hgr : w.heap.size + 1 = gr at T1 GR GN ⊢; generalize hgb : w.heap.size = gb at T1 GN ⊢; clear hgr; have GB : ag (w.heap.size ≤ gb) := ⟨Nat.le_of_eq hgb⟩; clear hgb; have hct : ¬ (t = 0) := ht; have aBu : decide (t = 0) = false := decide_eq_false ht; have HE := zA (Ol T1.out GR.out); have TU : w1.cell? ⟨gr, 0, none⟩ = some (.int .i64 0) := (ai T1.out.br 0).trans rfl; have ai2 : w1.cell? ⟨gr, 1, none⟩ = some (.slice none 0 0) := (ai T1.out.br 1).trans rfl; have aaB := bU T1.out.br 0; have aaC := bU T1.out.br 1; go_wp2; refine bodyPost_ret (iw rfl _ _ gr 24 #[.int .i64 0, .slice none 0 0] (0, 0) _ rfl HE.out.1 Tryd.underlying24 rfl (by kernel_rfl)) rfl ?_; exact ⟨_, rfl, Kd.wJ _ _ _ _ _, HE.out.2⟩
end Go.Proofs.YtjmdlmogdbhdhaaDoor.P
namespace Go.Proofs.YtjmdlmogdbhdhaaDoor.P
open Go.RowKit Go.Proofs.YtjmdlmogdbhdhaaDoorW.PrintWords Go.Proofs.YtjmdlmogdbhdhaaDoorW.PrintLast Go.Proofs.YtjmdlmogdbhdhaaDoorW.PrintMore
attribute [local go_sem] iI iJ jP jQ gH gI iK iL
set_option linter.unusedVariables false
set_option linter.unusedSimpArgs false
set_option maxHeartbeats 8000000
set_option maxRecDepth 100000
def aA (w0 W : World) (g : Nat) (f0 : List Int) (f1 : Int) : Prop := ∃ A0 c0, W.heap[g]? = some (.cells #[.slice A0 f0.length c0, .int .i64 f1] 64 (0, 0)) ∧ w0.heap.size ≤ g ∧ Kd.C (Kd.int .i64) w0 A0 f0.length f0
theorem aA.grown {w0 W : World} {g : Nat} {f0 : List Int} {f1 : Int} {W1 : World} {row : Option Nat} (h : aA w0 W g f0 f1) (hw : W.grownBy W1 row) (hne : some g ≠ row) : aA w0 W1 g f0 f1 := by
 obtain ⟨A0, c0, hb, hg, hr0⟩ := h; exact ⟨A0, c0, bZ hb hw hne, hg, hr0⟩
theorem aA.kept {w0 W : World} {g : Nat} {f0 : List Int} {f1 : Int} {W1 : World} {S : Nat → Prop} (h : aA w0 W g f0 f1) (hk : Kept W W1 S) (hne : ¬ S g) : aA w0 W1 g f0 f1 := by
 obtain ⟨A0, c0, hb, hg, hr0⟩ := h; exact ⟨A0, c0, yg hb hk hne, hg, hr0⟩
theorem aA.below {w0 W : World} {g : Nat} {f0 : List Int} {f1 : Int} {W1 : World} (h : aA w0 W g f0 f1) (hw : Below W.heap.size W W1) : aA w0 W1 g f0 f1 := h.grown (CJ hw none) (by simp)
theorem aA.alloc {w0 W : World} {g : Nat} {f0 : List Int} {f1 : Int} (h : aA w0 W g f0 f1) (o : Obj) : aA w0 (W.alloc o) g f0 f1 := h.below (bB (Below.refl _ _) o)
theorem aA.drewN {w0 W : World} {g : Nat} {f0 : List Int} {f1 : Int} (h : aA w0 W g f0 f1) (m : Nat) : aA w0 (W.drewN m) g f0 f1 := h
theorem aA.drew {w0 W : World} {g : Nat} {f0 : List Int} {f1 : Int} (h : aA w0 W g f0 f1) : aA w0 W.drew g f0 f1 := h
theorem aA.at_ {w0 W : World} {g : Nat} {f0 : List Int} {f1 : Int} {w' : World} {m : Nat} (hq : W.drewN m = w') (h : aA w0 W g f0 f1) : aA w0 w' g f0 f1 := by subst hq; exact aA.drewN h m
theorem aA.apart {w0 W : World} {g : Nat} {f0 : List Int} {f1 : Int} {α : Type} {d : Kd α} {e : Nat} {base : Nat} {ok : Nat → Prop} {v : Value} {xs : List α} (h : aA w0 W g f0 f1) (ho : d.R e W base ok v xs) (ht : ∀ q, q ∈ e :: d.E → q ≠ 64) : d.R e W base (fun k => ok k ∧ k ≠ g) v xs := by
 obtain ⟨A0, c0, hb, hg, hr0⟩ := h; exact Kd.bJ ho hb ht
theorem aA.own_ne {w0 W : World} {g : Nat} {f0 : List Int} {f1 : Int} {α : Type} {d : Kd α} {e : Nat} {base : Nat} {ok : Nat → Prop} {v : Value} {xs : List α} (h : aA w0 W g f0 f1) (ho : d.R e W base ok v xs) (ht : e ≠ 64) : some g ≠ v.ownBlock := by
 obtain ⟨A0, c0, hb, hg, hr0⟩ := h; exact Kd.oK ho hb ht
theorem aA.lt {w0 W : World} {g : Nat} {f0 : List Int} {f1 : Int} (h : aA w0 W g f0 f1) : g < W.heap.size := by
 obtain ⟨A0, c0, hb, hg, hr0⟩ := h; exact uR hb
theorem aA.ge {w0 W : World} {g : Nat} {f0 : List Int} {f1 : Int} (h : aA w0 W g f0 f1) : w0.heap.size ≤ g := by
 obtain ⟨A0, c0, hb, hg, hr0⟩ := h; exact hg
theorem aA.far {w0 W : World} {g : Nat} {f0 : List Int} {f1 : Int} {p : Addr} (h : aA w0 W g f0 f1) (hne : g ≠ p.block) (u : Value) : aA w0 (W.setCell p u) g f0 f1 := by
 obtain ⟨A0, c0, hb, hg, hr0⟩ := h; exact ⟨A0, c0, wP hb hne u, hg, hr0⟩
theorem MS {W : World} {g : Nat} {A0 : Option Addr} {c0 : Nat} {f0 : List Int} {f1 : Int} (h : W.heap[g]? = some (.cells #[.slice A0 f0.length c0, .int .i64 f1] 64 (0, 0))) : W.cell? ⟨g, 0, none⟩ = some (.slice A0 f0.length c0) := (ai h 0).trans rfl
theorem MU {W : World} {g : Nat} {A0 : Option Addr} {c0 : Nat} {f0 : List Int} {f1 : Int} (h : W.heap[g]? = some (.cells #[.slice A0 f0.length c0, .int .i64 f1] 64 (0, 0))) : W.cell? ⟨g, 1, none⟩ = some (.int .i64 f1) := (ai h 1).trans rfl
theorem aA.jL {w0 W : World} {g : Nat} {f0 : List Int} {f1 : Int} (h : aA w0 W g f0 f1) (x : Int) : aA w0 (W.setCell ⟨g, 1, none⟩ (.int .i64 x)) g f0 x := by
 obtain ⟨A0, c0, hb, hg, hr0⟩ := h; exact ⟨A0, c0, by simpa using VH hb 1 (.int .i64 x), hg, hr0⟩
theorem aA.new (w0 W : World) (A0 : Option Addr) (c0 : Nat) (f0 : List Int) (f1 : Int) (hB : Below w0.heap.size w0 W) (hr0 : Kd.C (Kd.int .i64) w0 A0 f0.length f0) : aA w0 (W.alloc (.cells #[.slice A0 f0.length c0, .int .i64 f1] 64)) W.heap.size f0 f1 := ⟨A0, c0, by simpa using heap_alloc_new W _, hB.size, hr0⟩
def mM.f (l0 : List Int) : Option (List Int × Int) := if 0 ≤ (mn (l0.length : Int) 2000) then (if (mn (l0.length : Int) 2000) ≤ (l0.length : Int) then (some (l0.take ((mn (l0.length : Int) 2000) : Int).toNat, 0)) else (none)) else (none)
theorem mM.calls (A0 : Option Addr) (c0 : Nat) (l0 : List Int) (r1 : List Int) (r2 : Int) (w0 w : World) (hB : Below w0.heap.size w0 w) (hr0 : Kd.C (Kd.int .i64) w0 A0 l0.length l0) (hc0 : l0.length ≤ c0) (h : mM.f l0 = some (r1, r2)) :
 Calls Tryd.prog 11 #[.slice A0 l0.length c0] w fun e w' => ∃ g_ : Nat, e = .returned (.pointer (some ⟨g_, 0, none⟩)) ∧ aA w0 w' g_ r1 r2 ∧ Below w0.heap.size w0 w' ∧ Below w.heap.size w w' := by
 have hu64 := Tryd.underlying64; have uh := zA hr0; have EK := zA hc0; clear hr0 hc0; have HBW := zA (Below.refl w.heap.size w); have HW0 := zA hB.size; have HB := zA hB; clear hB; have H : (if 0 ≤ (mn (l0.length : Int) 2000) then (if (mn (l0.length : Int) 2000) ≤ (l0.length : Int) then (some (l0.take ((mn (l0.length : Int) 2000) : Int).toNat, 0)) else (none)) else (none)) = some (r1, r2) := h; clear h; obtain ⟨YU, aaE⟩ : ∃ j_ : Int, (mn (l0.length : Int) 2000) = j_ := ⟨_, rfl⟩; replace H : (if 0 ≤ (YU) then (if (YU) ≤ (l0.length : Int) then (some (l0.take ((YU) : Int).toNat, 0)) else (none)) else (none)) = some (r1, r2) := by first | (rw [aaE] at H; exact H) | (simp only [aaE] at H ⊢; exact H)
 (try (have axS : YU ≤ 2000 := by (rw [← aaE]; unfold mn; (repeat' split) <;> omega))); (try (have axT : YU ≤ 64 := by omega)); (try (have axU : 0 ≤ YU := by (rw [← aaE]; unfold mn; (repeat' split) <;> omega))); (try (have axV : 0 ≤ YU := by omega)); have axW : (if 2000 < (l0.length : Int) then 2000 else (l0.length : Int)) = YU := aaE; by_cases c3 : 0 ≤ (YU)
 · rw [if_pos c3] at H; have zF := eq_true c3; have TV := decide_eq_true c3; clear c3; by_cases c4 : (YU) ≤ (l0.length : Int)
   · rw [if_pos c4] at H; have qU := eq_true c4; have Om := decide_eq_true c4; clear c4; simp only [Option.some.injEq, Prod.mk.injEq] at H; obtain ⟨rfl, rfl⟩ := H; obtain ⟨i05, anf, _, hsz5, _⟩ := info_parts info3; obtain ⟨axX, hA5, hC5⟩ := Ma (P := Tryd.prog) (Value.int .i64) 0 25 3 .i64 Tryd.underlying25 anf hsz5 A0 c0 l0 (YU) zo zo EK.out; have ang := zA (Kd.J7 (h1 := fun _ => rfl) (hA5 _ (Kd.J8 uh.out))); have ax0 := zA hC5; clear hA5 hC5 anf hsz5; go_enter Tryd.func11, Tryd.ntmps11; go_wp2_with (first | ((with_reducible refine aH (N := 9) rfl ?_); refine zX (N := 9) (cs := #[.slice A0 (l0.take ((YU) : Int).toNat).length c0, .int .i64 0]) (t := 64) ?_; intro aaF hg w6 aG hb; have anh := zA (aG); have ax1 := zA (zW hg HBW); have ani := zA ((Nat.le_trans HW0.out (by rw [hg]; exact (aJ (zB HBW)) : w.heap.size ≤ aaF) : w0.heap.size ≤ aaF)); replace HBW := zA (af HBW.out hb); replace HB := zA (af (zB HB) hb); clear hb aG hg)); go_ret; exact ⟨_, rfl, (show aA w0 _ aaF (l0.take ((YU) : Int).toNat) 0 from ⟨_, _, by refine zk ?_; exact anh.out, ani.out, ang.out⟩), zB HB, zB HBW⟩
   · rw [if_neg c4] at H; exact absurd H (by simp)
 · rw [if_neg c3] at H; exact absurd H (by simp)
def jo.f (a0 : Int) (a1 : Int) : Option (Int) := if a1 < 1 then (some 0) else (if a1 = 0 then (none) else (if (Int.tmod a0 a1) < 0 then (some (wrap64 ((Int.tmod a0 a1) + a1))) else (some (Int.tmod a0 a1))))
theorem jo.calls (a0 : Int) (a1 : Int) (r : Int) (w : World) (h : jo.f a0 a1 = some r) :
 Calls Tryd.prog 35 #[.int .i64 a0, .int .i64 a1] w fun e w' => e = .returned (.int .i64 r) ∧ bR w w' := by
 have H : (if a1 < 1 then (some 0) else (if a1 = 0 then (none) else (if (Int.tmod a0 a1) < 0 then (some (wrap64 ((Int.tmod a0 a1) + a1))) else (some (Int.tmod a0 a1))))) = some r := h; clear h; by_cases c3 : a1 < 1
 · rw [if_pos c3] at H; have zF := decide_eq_true c3; clear c3; obtain rfl := Option.some.inj H; go_enter Tryd.func35, Tryd.ntmps35; go_wp2; go_ret; exact ⟨by first | rfl | (simp; done) | (simp [*]; done), by repeat (first | exact bR.refl _ | apply bR.step)⟩
 · rw [if_neg c3] at H; have zF := decide_eq_false c3; clear c3; by_cases c4 : a1 = 0
   · rw [if_pos c4] at H; exact absurd H (by simp)
   · rw [if_neg c4] at H; have qU : (a1 == 0) = false := beq_eq_false_iff_ne.mpr c4; have Om : (a1 != 0) = true := bne_iff_ne.mpr c4; by_cases c5 : (Int.tmod a0 a1) < 0
     · rw [if_pos c5] at H; have pM := decide_eq_true c5; clear c5; obtain rfl := Option.some.inj H; go_enter Tryd.func35, Tryd.ntmps35; go_wp2; go_ret; exact ⟨by first | rfl | (simp; done) | (simp [*]; done), by repeat (first | exact bR.refl _ | apply bR.step)⟩
     · rw [if_neg c5] at H; have pM := decide_eq_false c5; clear c5; obtain rfl := Option.some.inj H; go_enter Tryd.func35, Tryd.ntmps35; go_wp2; go_ret; exact ⟨by first | rfl | (simp; done) | (simp [*]; done), by repeat (first | exact bR.refl _ | apply bR.step)⟩
def iX.f (iE : List Int) (l6 : Int) : Option (Int × Int) := if l6 ≥ (iE.length : Int) then (some (0, l6)) else (if 0 ≤ (wrap64 ((wrap64 (l6 + 1)) - 1)) then (if (wrap64 ((wrap64 (l6 + 1)) - 1)) < (iE.length : Int) then (some (rd iE (wrap64 ((wrap64 (l6 + 1)) - 1)), wrap64 (l6 + 1))) else (none)) else (none))
theorem iX.calls (g : Nat) (iE : List Int) (l6 : Int) (r1 : Int) (r2 : Int) (w0 w : World) (hI : aA w0 w g iE l6) (hB : Below w0.heap.size w0 w) (h : iX.f iE l6 = some (r1, r2)) :
 Calls Tryd.prog 36 #[.pointer (some ⟨g, 0, none⟩)] w fun e w' => e = .returned (.int .i64 r1) ∧ aA w0 w' g iE r2 ∧ Below w0.heap.size w0 w' ∧ aY w w' g none := by
 have HI0 := zA hI; have HK := zA (aY.refl w g none); have HL := zA hB.size; clear hI; have HW0 := zA hB.size; have HB := zA hB; clear hB; have H : (if l6 ≥ (iE.length : Int) then (some (0, l6)) else (if 0 ≤ (wrap64 ((wrap64 (l6 + 1)) - 1)) then (if (wrap64 ((wrap64 (l6 + 1)) - 1)) < (iE.length : Int) then (some (rd iE (wrap64 ((wrap64 (l6 + 1)) - 1)), wrap64 (l6 + 1))) else (none)) else (none))) = some (r1, r2) := h; clear h; by_cases c2 : l6 ≥ (iE.length : Int)
 · rw [if_pos c2] at H; have Mg := decide_eq_true c2; clear c2; simp only [Option.some.injEq, Prod.mk.injEq] at H; obtain ⟨rfl, rfl⟩ := H; obtain ⟨atD, atE, ad3, atF, atG⟩ := HI0.out; have atH := MS ad3; have atI := MU ad3; have atJ := bU ad3 1; clear ad3 atF; go_enter Tryd.func36, Tryd.ntmps36; go_wp2; repeat (go_quiet (fail); try go_wp2)
   go_ret; exact ⟨ze, by repeat (first | (with_reducible first | exact HI0.out | apply aA.alloc | apply aA.drewN | apply aA.drew | apply aA.jL) | exact HI0.out), by repeat (first | (with_reducible first | exact HB.out | apply bB | apply bH | apply bn | refine bG ?_ (aA.ge HI0.out)) | exact HB.out), by repeat (first | (with_reducible first | exact HK.out | apply aY.nW | apply cZ | apply dN | apply dh) | exact HK.out)⟩
 · rw [if_neg c2] at H; have Mg := decide_eq_false c2; clear c2; obtain ⟨ji4, ad5⟩ : ∃ j_ : Int, (wrap64 ((wrap64 (l6 + 1)) - 1)) = j_ := ⟨_, rfl⟩; replace H : (if 0 ≤ (ji4) then (if (ji4) < (iE.length : Int) then (some (rd iE (ji4), wrap64 (l6 + 1))) else (none)) else (none)) = some (r1, r2) := by first | (rw [ad5] at H; exact H) | (simp only [ad5] at H ⊢; exact H)
   have ax2 : (IntKind.i64.wrap ((wrap64 (l6 + 1)) - 1)) = ji4 := (nE _).trans ad5; by_cases c5 : 0 ≤ (ji4)
   · rw [if_pos c5] at H; have pM := decide_eq_true c5; clear c5; by_cases c6 : (ji4) < (iE.length : Int)
     · rw [if_pos c6] at H; have yH := decide_eq_true c6; clear c6; simp only [Option.some.injEq, Prod.mk.injEq] at H; obtain ⟨rfl, rfl⟩ := H; obtain ⟨atK, atL, ad6, atM, ai3⟩ := HI0.out; have atN := MS ad6; have atO := MU ad6; have atP := bU ad6 1; clear ad6 atM; have ai4 : 0 ≤ ((ji4) : Int) := zo; have ai5 : (ji4) < (iE.length : Int) := zo; obtain ⟨anj, e318, DF⟩ := Kd.eP ai3 (ji4) ai4 ai5; cases e318; have JD : anj.block ≠ g := Nat.ne_of_lt (Nat.lt_of_lt_of_le (by have := World.block_lt_of_cell? _ _ DF; first | rwa [add_block] at this | exact this) (aA.ge HI0.out)); replace DF := vC HB.out DF; replace DF := (cell_far (p := ⟨g, 1, none⟩) (by first | (rw [add_block]; exact JD) | (show (Addr.add _ _).block ≠ _; rw [add_block]; exact JD) | exact JD) (.int .i64 (wrap64 (l6 + 1)))).trans DF; (try have asg := fun (n_ : Nat) => (show (((w.drewN n_).setCell ⟨g, 1, none⟩ (.int .i64 (wrap64 (l6 + 1))))).cell? _ = some _ from DF)); clear JD; replace ai4 := eq_true ai4; replace ai5 := eq_true ai5; go_enter Tryd.func36, Tryd.ntmps36; go_wp2; repeat (go_quiet (fail); try go_wp2)
       go_ret; exact ⟨by first | rfl | (simp [jf, jg] <;> rfl) | (simp only [← ad5]; first | rfl | (simp [jf, jg] <;> rfl)) | (simp [*, jf, jg] <;> rfl), by repeat (first | (with_reducible first | exact HI0.out | apply aA.alloc | apply aA.drewN | apply aA.drew | apply aA.jL) | exact HI0.out), by repeat (first | (with_reducible first | exact HB.out | apply bB | apply bH | apply bn | refine bG ?_ (aA.ge HI0.out)) | exact HB.out), by repeat (first | (with_reducible first | exact HK.out | apply aY.nW | apply cZ | apply dN | apply dh) | exact HK.out)⟩
     · rw [if_neg c6] at H; exact absurd H (by simp)
   · rw [if_neg c5] at H; exact absurd H (by simp)
def bP.f (iE : List Int) (l6 : Int) (a1 : Int) : Option (Int × Int) := (iX.f iE l6).bind fun QA => ((jo.f QA.1 a1).bind fun aaG => (some (aaG, QA.2)))
theorem bP.calls (g : Nat) (iE : List Int) (l6 : Int) (a1 : Int) (r1 : Int) (r2 : Int) (w0 w : World) (hI : aA w0 w g iE l6) (hB : Below w0.heap.size w0 w) (h : bP.f iE l6 a1 = some (r1, r2)) :
 Calls Tryd.prog 16 #[.pointer (some ⟨g, 0, none⟩), .int .i64 a1] w fun e w' => e = .returned (.int .i64 r1) ∧ aA w0 w' g iE r2 ∧ Below w0.heap.size w0 w' ∧ aY w w' g none := by
 have HI0 := zA hI; have HK := zA (aY.refl w g none); have HL := zA hB.size; clear hI; have HW0 := zA hB.size; have HB := zA hB; clear hB; have H : ((iX.f iE l6).bind fun QA => ((jo.f QA.1 a1).bind fun aaG => (some (aaG, QA.2)))) = some (r1, r2) := h; clear h; replace H := Option.bind_eq_some_iff.mp H; obtain ⟨⟨ai6, atQ⟩, A30, H⟩ := H; (try dsimp only at H); have A3 := zA A30; clear A30; replace H := zE H; obtain ⟨aaG, A4, H⟩ := H; (try dsimp only at H); simp only [Option.some.injEq, Prod.mk.injEq] at H; obtain ⟨rfl, rfl⟩ := H; go_enter Tryd.func16, Tryd.ntmps16; go_wp2_with (first | ((with_reducible refine ay (f := 36) rfl ?_); refine zG (some 6) rfl Tryd.func36 #[.pointer (some ⟨g, 0, none⟩)] ?_; (with_reducible refine (iX.calls g iE l6 ai6 atQ w0 _ ?aI ?aN A3.out).mono ?_); (case aI => repeat (first | (with_reducible first | exact HI0.out | apply aA.alloc | apply aA.drewN | apply aA.drew | apply aA.jL) | exact HI0.out)); (case aN => repeat (first | (with_reducible first | exact HB.out | apply bB | apply bH | apply bn | refine bG ?_ (aA.ge HI0.out)) | exact HB.out)); rintro e w5 ⟨rfl, hi, hb, hk⟩; refine ⟨_, rfl, ?_⟩; replace HK := zA (aY.trans (by repeat (first | (with_reducible first | exact HK.out | apply aY.nW | apply cZ | apply dN | apply dh) | exact HK.out)) hk (.inl rfl)); replace HB := zA (hb); replace HI0 := zA (hi)) | ((with_reducible refine ay (f := 35) rfl ?_); refine zG (some 8) rfl Tryd.func35 #[.int .i64 ai6, .int .i64 a1] ?_; (with_reducible refine (jo.calls ai6 a1 aaG _ A4.out).mono ?_); rintro e w' ⟨rfl, ⟨nd, rfl⟩⟩; refine ⟨_, rfl, ?_⟩)); go_ret; exact ⟨ze, by repeat (first | (with_reducible first | exact HI0.out | apply aA.alloc | apply aA.drewN | apply aA.drew | apply aA.jL) | exact HI0.out), by repeat (first | (with_reducible first | exact HB.out | apply bB | apply bH | apply bn | refine bG ?_ (aA.ge HI0.out)) | exact HB.out), by repeat (first | (with_reducible first | exact HK.out | apply aY.nW | apply cZ | apply dN | apply dh) | exact HK.out)⟩
def fq.f (iE : List Int) (l6 : Int) (a1 : Int) (a2 : Int) : Option (Int × Int) := (bP.f iE l6 (wrap64 ((wrap64 (a2 - a1)) + 1))).bind fun QB => (some (wrap64 (a1 + QB.1), QB.2))
theorem fq.calls (g : Nat) (iE : List Int) (l6 : Int) (a1 : Int) (a2 : Int) (r1 : Int) (r2 : Int) (w0 w : World) (hI : aA w0 w g iE l6) (hB : Below w0.heap.size w0 w) (h : fq.f iE l6 a1 a2 = some (r1, r2)) :
 Calls Tryd.prog 13 #[.pointer (some ⟨g, 0, none⟩), .int .i64 a1, .int .i64 a2] w fun e w' => e = .returned (.int .i64 r1) ∧ aA w0 w' g iE r2 ∧ Below w0.heap.size w0 w' ∧ aY w w' g none := by
 have HI0 := zA hI; have HK := zA (aY.refl w g none); have HL := zA hB.size; clear hI; have HW0 := zA hB.size; have HB := zA hB; clear hB; have H : ((bP.f iE l6 (wrap64 ((wrap64 (a2 - a1)) + 1))).bind fun QB => (some (wrap64 (a1 + QB.1), QB.2))) = some (r1, r2) := h; clear h; replace H := Option.bind_eq_some_iff.mp H; obtain ⟨⟨atS, atT⟩, YV, H⟩ := H; (try dsimp only at H); have A4 := zA YV; clear YV; simp only [Option.some.injEq, Prod.mk.injEq] at H; obtain ⟨rfl, rfl⟩ := H; go_enter Tryd.func13, Tryd.ntmps13; go_wp2_with (first | ((with_reducible refine ay (f := 16) rfl ?_); refine zG (some 13) rfl Tryd.func16 #[.pointer (some ⟨g, 0, none⟩), .int .i64 (wrap64 ((wrap64 (a2 - a1)) + 1))] ?_; (with_reducible refine (bP.calls g iE l6 (wrap64 ((wrap64 (a2 - a1)) + 1)) atS atT w0 _ ?aI ?aN A4.out).mono ?_); (case aI => repeat (first | (with_reducible first | exact HI0.out | apply aA.alloc | apply aA.drewN | apply aA.drew | apply aA.jL) | exact HI0.out)); (case aN => repeat (first | (with_reducible first | exact HB.out | apply bB | apply bH | apply bn | refine bG ?_ (aA.ge HI0.out)) | exact HB.out)); rintro e w5 ⟨rfl, hi, hb, hk⟩; refine ⟨_, rfl, ?_⟩; replace HK := zA (aY.trans (by repeat (first | (with_reducible first | exact HK.out | apply aY.nW | apply cZ | apply dN | apply dh) | exact HK.out)) hk (.inl rfl)); replace HB := zA (hb); replace HI0 := zA (hi))); go_ret; exact ⟨ze, by repeat (first | (with_reducible first | exact HI0.out | apply aA.alloc | apply aA.drewN | apply aA.drew | apply aA.jL) | exact HI0.out), by repeat (first | (with_reducible first | exact HB.out | apply bB | apply bH | apply bn | refine bG ?_ (aA.ge HI0.out)) | exact HB.out), by repeat (first | (with_reducible first | exact HK.out | apply aY.nW | apply cZ | apply dN | apply dh) | exact HK.out)⟩
mutual
def bA.l0 : Nat → Int → Int → List Int → Int → Int → List (aD) → Option (Int × (List (aD)) × Int)
 | 0, _, _, _, _, _, _ => none
 | k + 1, x6, x7, x1000, Ci, vD, vE => if x7 < vD then (bA.l1 k x6 x7 0 x1000 Ci vD vE) else (some (vD, vE, Ci))
def bA.l1 : Nat → Int → Int → Int → List Int → Int → Int → List (aD) → Option (Int × (List (aD)) × Int)
 | 0, _, _, _, _, _, _, _ => none
 | k + 1, x6, x7, x8, x1000, Ci, vD, vE => if x8 < vD then (if x7 = x8 then ((bP.f x1000 Ci 9).bind fun aaH => (if aaH.1 = 1 then (if vE.length < 8796093022208 then (bA.l1 k x6 x7 (wrap64 (x8 + 1)) x1000 aaH.2 vD (vE ++ [(⟨x7, x8⟩ : aD)])) else (none)) else (bA.l1 k x6 x7 (wrap64 (x8 + 1)) x1000 aaH.2 vD vE))) else ((bP.f x1000 Ci x6).bind fun aaI => (if aaI.1 = 1 then (if vE.length < 8796093022208 then (bA.l1 k x6 x7 (wrap64 (x8 + 1)) x1000 aaI.2 vD (vE ++ [(⟨x7, x8⟩ : aD)])) else (none)) else (bA.l1 k x6 x7 (wrap64 (x8 + 1)) x1000 aaI.2 vD vE)))) else (bA.l0 k x6 (wrap64 (x7 + 1)) x1000 Ci vD vE)
end
def bA.f (k : Nat) (iE : List Int) (l6 : Int) (a1 : Int) : Option (Int × (List (aD)) × Int) := (fq.f iE l6 1 a1).bind fun QC => ((fq.f iE QC.2 2 5).bind fun QD => (bA.l0 k QD.1 0 iE QD.2 QC.1 ([] : List (aD))))
theorem bA.calls (k : Nat) (g : Nat) (iE : List Int) (l6 : Int) (a1 : Int) (r1 : Int) (r2 : List (aD)) (r3 : Int) (w0 w : World) (hI : aA w0 w g iE l6) (hB : Below w0.heap.size w0 w) (h : bA.f k iE l6 a1 = some (r1, r2, r3)) :
 Calls Tryd.prog 12 #[.pointer (some ⟨g, 0, none⟩), .int .i64 a1] w fun e w' => ∃ C8 : Value, e = .returned (.agg #[.int .i64 r1, C8]) ∧ Kd.R gm 42 w' w.heap.size (fun _ => True) C8 r2 ∧ aA w0 w' g iE r3 ∧ Below w0.heap.size w0 w' ∧ aY w w' g none := by
 have uk := Tryd.underlying24; have wV := Tryd.underlying42; have HI0 := zA hI; have HK := zA (aY.refl w g none); have HL := zA hB.size; clear hI; have HW0 := zA hB.size; have HB := zA hB; clear hB; have H : ((fq.f iE l6 1 a1).bind fun QC => ((fq.f iE QC.2 2 5).bind fun QD => (bA.l0 k QD.1 0 iE QD.2 QC.1 ([] : List (aD))))) = some (r1, r2, r3) := h; clear h; replace H := Option.bind_eq_some_iff.mp H; obtain ⟨⟨yI, ad7⟩, A30, H⟩ := H; (try dsimp only at H); have A3 := zA A30; clear A30; replace H := Option.bind_eq_some_iff.mp H; obtain ⟨⟨Oo, ank⟩, YV, H⟩ := H; (try dsimp only at H); have A4 := zA YV; clear YV; have H' := zA H; clear H; go_enter Tryd.func12, Tryd.ntmps12; go_wp2_with (first | ((with_reducible refine aH (N := 4) rfl ?_); refine zX (N := 4) (cs := #[.int .i64 0, .slice none 0 0]) (t := 24) ?_; intro uN hg w5 aG hb; have mU := zA (aG); have sw := zA ((by rw [hg]; exact (tC (w := w) (g := g) (row := none) (by repeat (first | (with_reducible first | exact HK.out | apply aY.nW | apply cZ | apply dN | apply dh) | exact HK.out))) : w.heap.size ≤ uN)); have vO := zA ((Nat.le_trans HW0.out (by rw [hg]; exact (tC (w := w) (g := g) (row := none) (by repeat (first | (with_reducible first | exact HK.out | apply aY.nW | apply cZ | apply dN | apply dh) | exact HK.out))) : w.heap.size ≤ uN) : w0.heap.size ≤ uN)); have lF := zA ((by rw [hg]; exact Nat.ne_of_lt (aA.lt (show aA w0 _ g iE l6 from by repeat (first | (with_reducible first | exact HI0.out | apply aA.alloc | apply aA.drewN | apply aA.drew | apply aA.jL) | exact HI0.out))) : g ≠ uN)); have Bo := zA ((by rw [hg]; exact Nat.ne_of_gt (aA.lt (show aA w0 _ g iE l6 from by repeat (first | (with_reducible first | exact HI0.out | apply aA.alloc | apply aA.drewN | apply aA.drew | apply aA.jL) | exact HI0.out))) : uN ≠ g)); replace HK := zA (aY.trans (by repeat (first | (with_reducible first | exact HK.out | apply aY.nW | apply cZ | apply dN | apply dh) | exact HK.out)) (aY.of_below hb g none) (.inl rfl)); replace HB := zA (af (by repeat (first | (with_reducible first | exact HB.out | apply bB | apply bH | apply bn | refine bG ?_ (aA.ge HI0.out)) | exact HB.out)) hb); replace HI0 := zA (aA.below (by repeat (first | (with_reducible first | exact HI0.out | apply aA.alloc | apply aA.drewN | apply aA.drew | apply aA.jL) | exact HI0.out)) hb); clear hb aG hg) | ((with_reducible refine ay (f := 13) rfl ?_); refine zG (some 12) rfl Tryd.func13 #[.pointer (some ⟨g, 0, none⟩), .int .i64 1, .int .i64 a1] ?_; (with_reducible refine (fq.calls g iE l6 1 a1 yI ad7 w0 _ ?aI ?aN A3.out).mono ?_); (case aI => repeat (first | (with_reducible first | exact HI0.out | apply aA.alloc | apply aA.drewN | apply aA.drew | apply aA.jL | refine aA.far ?_ lF.out _) | exact HI0.out)); (case aN => repeat (first | (with_reducible first | exact HB.out | apply bB | apply bH | apply bn | refine bG ?_ (aA.ge HI0.out) | refine bG ?_ vO.out) | exact HB.out)); rintro e w6 ⟨rfl, hi, hb, hk⟩; refine ⟨_, rfl, ?_⟩; replace mU := zA (aY.blk hk (g' := uN) (o := .cells #[.int .i64 0, .slice none 0 0] 24 (0, 0)) (zK mU) Bo.out (by simp)); replace HK := zA (aY.trans (by repeat (first | (with_reducible first | exact HK.out | apply aY.nW | apply cZ | apply dN | apply dh | refine fP ?_ sw.out _) | exact HK.out)) hk (.inl rfl)); replace HB := zA (hb); replace HI0 := zA (hi)) | ((with_reducible refine aH (N := 5) rfl ?_); refine zX (N := 5) (cs := #[.int .i64 0, .slice none 0 0]) (t := 24) ?_; intro wL hg w7 aG hb; have lV := zA (aG); have vP := zA ((by rw [hg]; exact (tC (w := w) (g := g) (row := none) (by repeat (first | (with_reducible first | exact HK.out | apply aY.nW | apply cZ | apply dN | apply dh | refine fP ?_ sw.out _) | exact HK.out))) : w.heap.size ≤ wL)); have yt := zA ((Nat.le_trans HW0.out (by rw [hg]; exact (tC (w := w) (g := g) (row := none) (by repeat (first | (with_reducible first | exact HK.out | apply aY.nW | apply cZ | apply dN | apply dh | refine fP ?_ sw.out _) | exact HK.out))) : w.heap.size ≤ wL) : w0.heap.size ≤ wL)); have oQ := zA (lZ hg mU); have tF := zA (l5 hg mU); have ku := zA ((by rw [hg]; exact Nat.ne_of_lt (aA.lt (show aA w0 _ g iE ad7 from by repeat (first | (with_reducible first | exact HI0.out | apply aA.alloc | apply aA.drewN | apply aA.drew | apply aA.jL | refine aA.far ?_ lF.out _) | exact HI0.out))) : g ≠ wL)); have rA := zA ((by rw [hg]; exact Nat.ne_of_gt (aA.lt (show aA w0 _ g iE ad7 from by repeat (first | (with_reducible first | exact HI0.out | apply aA.alloc | apply aA.drewN | apply aA.drew | apply aA.jL | refine aA.far ?_ lF.out _) | exact HI0.out))) : wL ≠ g)); replace mU := zA (dn mU hb); replace HK := zA (aY.trans (by repeat (first | (with_reducible first | exact HK.out | apply aY.nW | apply cZ | apply dN | apply dh | refine fP ?_ sw.out _) | exact HK.out)) (aY.of_below hb g none) (.inl rfl)); replace HB := zA (af (by repeat (first | (with_reducible first | exact HB.out | apply bB | apply bH | apply bn | refine bG ?_ (aA.ge HI0.out) | refine bG ?_ vO.out) | exact HB.out)) hb); replace HI0 := zA (aA.below (by repeat (first | (with_reducible first | exact HI0.out | apply aA.alloc | apply aA.drewN | apply aA.drew | apply aA.jL | refine aA.far ?_ lF.out _) | exact HI0.out)) hb); clear hb aG hg; have anl := tF.out; have anm := oQ.out; have ai7 := rA.out; have ai8 := ku.out; obtain ⟨_, _, _, _⟩ := iG lV) | ((with_reducible refine ay (f := 13) rfl ?_); refine zG (some 15) rfl Tryd.func13 #[.pointer (some ⟨g, 0, none⟩), .int .i64 2, .int .i64 5] ?_; (with_reducible refine (fq.calls g iE ad7 2 5 Oo ank w0 _ ?aI ?aN A4.out).mono ?_); (case aI => repeat (first | (with_reducible first | exact HI0.out | apply aA.alloc | apply aA.drewN | apply aA.drew | apply aA.jL | refine aA.far ?_ lF.out _ | refine aA.far ?_ ku.out _) | exact HI0.out)); (case aN => repeat (first | (with_reducible first | exact HB.out | apply bB | apply bH | apply bn | refine bG ?_ (aA.ge HI0.out) | refine bG ?_ vO.out | refine bG ?_ yt.out) | exact HB.out)); rintro e QE ⟨rfl, hi, hb, hk⟩; refine ⟨_, rfl, ?_⟩; replace mU := zA (aY.blk hk (g' := uN) (o := .cells #[.int .i64 0, .slice none 0 0] 24 (0, 0)) (by refine iA oQ.out ?_; refine iA oQ.out ?_; refine zk ?_; exact mU.out) Bo.out (by simp)); replace lV := zA (aY.blk hk (g' := wL) (o := .cells #[.int .i64 yI, .slice none 0 0] 24 (0, 0)) (by refine zk ?_; refine aV (cs := #[.int .i64 yI, .slice none 0 0]) ?_ 1 _ rfl; refine zk ?_; refine aV (cs := #[.int .i64 0, .slice none 0 0]) ?_ 0 _ rfl; refine zk ?_; exact lV.out) rA.out (by simp)); replace HK := zA (aY.trans (by repeat (first | (with_reducible first | exact HK.out | apply aY.nW | apply cZ | apply dN | apply dh | refine fP ?_ sw.out _ | refine fP ?_ vP.out _) | exact HK.out)) hk (.inl rfl)); replace HB := zA (hb); replace HI0 := zA (hi))); go_loopg [7] k (fun kq v7 w' => ∃ (bY : Int) (oI : Int) (xJ : List (aD)) (mJ : Value), v7 = .int .i64 bY ∧ ag (bA.l0 kq Oo bY iE oI yI xJ = some (r1, r2, r3)) ∧ ag (kq ≤ k) ∧ ag (Kd.R gm 42 w' w.heap.size (fun _ => True) mJ xJ) ∧ ag (w'.heap[uN]? = some (.cells #[.int .i64 0, (.slice none 0 0)] 24 (0, 0))) ∧ ag (w'.heap[wL]? = some (.cells #[.int .i64 yI, mJ] 24 (0, 0))) ∧ ag (aA w0 w' g iE oI) ∧ ag (aY w w' g none) ∧ ag (Below w0.heap.size w0 w'))
 case atStart => exact ⟨(0), (ank), (([] : List (aD))), (.slice none 0 0), zv, H', ⟨Nat.le_refl _⟩, ⟨Ab⟩, ⟨zK mU⟩, ⟨zK lV⟩, ⟨by repeat (first | (with_reducible first | exact HI0.out | apply aA.alloc | apply aA.drewN | apply aA.drew | apply aA.jL | refine aA.far ?_ lF.out _ | refine aA.far ?_ ku.out _) | exact HI0.out)⟩, ⟨by repeat (first | (with_reducible first | exact HK.out | apply aY.nW | apply cZ | apply dN | apply dh | refine fP ?_ sw.out _ | refine fP ?_ vP.out _) | exact HK.out)⟩, ⟨by repeat (first | (with_reducible first | exact HB.out | apply bB | apply bH | apply bn | refine bG ?_ (aA.ge HI0.out) | refine bG ?_ vO.out | refine bG ?_ yt.out) | exact HB.out)⟩⟩
 case round =>
  clear H'
  obtain ⟨bY, oI, xJ, mJ, rfl, HA, iU, gZ, mU, lV, HI0, HK, HB⟩ := hrel; cases gk with
  | zero => exact absurd HA.out (by simp [bA.l0])
  | succ k1 =>
   have H := HA.out; clear HA; simp only [bA.l0] at H; by_cases c12 : bY < yI
   · rw [if_pos c12] at H; have Aj := decide_eq_true c12; clear c12; have H' := zA H; clear H; have V5 := tF.out; have V6 := oQ.out; have Kq := rA.out; have Kr := ku.out; obtain ⟨_, _, _, _⟩ := iG lV; go_wp2; go_loopg [8] k1 (fun kq v8 w' => ∃ (kR : Int) (sP : Int) (oU : List (aD)) (mJ : Value), v8 = .int .i64 kR ∧ ag (bA.l1 kq Oo bY kR iE sP yI oU = some (r1, r2, r3)) ∧ ag (kq ≤ k1) ∧ ag (Kd.R gm 42 w' w.heap.size (fun _ => True) mJ oU) ∧ ag (w'.heap[uN]? = some (.cells #[.int .i64 0, (.slice none 0 0)] 24 (0, 0))) ∧ ag (w'.heap[wL]? = some (.cells #[.int .i64 yI, mJ] 24 (0, 0))) ∧ ag (aA w0 w' g iE sP) ∧ ag (aY w w' g none) ∧ ag (Below w0.heap.size w0 w'))
     case atStart => exact ⟨(0), (oI), (xJ), (mJ), zv, H', ⟨Nat.le_refl _⟩, ⟨zR gZ⟩, ⟨zK mU⟩, ⟨zK lV⟩, ⟨by repeat (first | (with_reducible first | exact HI0.out | apply aA.alloc | apply aA.drewN | apply aA.drew | apply aA.jL | refine aA.far ?_ lF.out _ | refine aA.far ?_ ku.out _) | exact HI0.out)⟩, ⟨by repeat (first | (with_reducible first | exact HK.out | apply aY.nW | apply cZ | apply dN | apply dh | refine fP ?_ sw.out _ | refine fP ?_ vP.out _) | exact HK.out)⟩, ⟨by repeat (first | (with_reducible first | exact HB.out | apply bB | apply bH | apply bn | refine bG ?_ (aA.ge HI0.out) | refine bG ?_ vO.out | refine bG ?_ yt.out) | exact HB.out)⟩⟩
     case round =>
      clear H'
      obtain ⟨kR, sP, oU, mJ, rfl, HA, mo, gZ, mU, lV, HI0, HK, HB⟩ := hrel; cases gk with
      | zero => exact absurd HA.out (by simp [bA.l1])
      | succ k2 =>
       have H := HA.out; clear HA; simp only [bA.l1] at H; by_cases c16 : kR < yI
       · rw [if_pos c16] at H; have aaJ := decide_eq_true c16; clear c16; by_cases c17 : bY = kR
         · rw [if_pos c17] at H; have Kt : (bY == kR) = true := beq_iff_eq.mpr c17; have ann : (bY != kR) = false := bne_eq_false_iff_eq.mpr c17; clear c17; replace H := Option.bind_eq_some_iff.mp H; obtain ⟨⟨TY, aaK⟩, ano, H⟩ := H; (try dsimp only at H); have A18 := zA ano; clear ano; by_cases c19 : TY = 1
           · rw [if_pos c19] at H; have V7 : (TY == 1) = true := beq_iff_eq.mpr c19; have anp : (TY != 1) = false := bne_eq_false_iff_eq.mpr c19; clear c19; by_cases c20 : oU.length < 8796093022208
             · rw [if_pos c20] at H; have anq := zA c20; clear c20; obtain ⟨ad8, QF⟩ : ∃ y_ : List (aD), y_ = (oU ++ [(⟨bY, kR⟩ : aD)]) := ⟨_, rfl⟩; replace H : (bA.l1 k2 Oo bY (wrap64 (kR + 1)) iE aaK yI ad8) = some (r1, r2, r3) := by first | (rw [QF]; with_reducible exact H) | (have iW := (Option.bind_some _ _).symm.trans H; rw [QF]; with_reducible exact iW) | (have iW := (Option.bind_some _ _).symm.trans H; with_reducible exact iW) | with_reducible exact H | (rw [QF]; exact H) | exact H
               have anr := zA QF; clear QF; have H' := zA H; clear H; have VX := tF.out; have VY := oQ.out; have V8 := rA.out; have V9 := ku.out; obtain ⟨_, _, _, _⟩ := iG lV; go_wp2_with (first | ((with_reducible refine ay (f := 16) rfl ?_); refine zG (some 34) rfl Tryd.func16 #[.pointer (some ⟨g, 0, none⟩), .int .i64 9] ?_; (with_reducible refine (bP.calls g iE sP 9 TY aaK w0 _ ?aI ?aN A18.out).mono ?_); (case aI => repeat (first | (with_reducible first | exact HI0.out | apply aA.alloc | apply aA.drewN | apply aA.drew | apply aA.jL | refine aA.far ?_ lF.out _ | refine aA.far ?_ ku.out _) | exact HI0.out)); (case aN => repeat (first | (with_reducible first | exact HB.out | apply bB | apply bH | apply bn | refine bG ?_ (aA.ge HI0.out) | refine bG ?_ vO.out | refine bG ?_ yt.out) | exact HB.out)); rintro e w24 ⟨rfl, hi, hb, hk⟩; refine ⟨_, rfl, ?_⟩; replace gZ := zA (Kd.aQ (Kd.Bg (aA.apart (show aA w0 _ g iE sP from by repeat (first | (with_reducible first | exact HI0.out | apply aA.alloc | apply aA.drewN | apply aA.drew | apply aA.jL | refine aA.far ?_ lF.out _ | refine aA.far ?_ ku.out _) | exact HI0.out)) (zR gZ) (by decide)) hk (fun _ h => h.2)) (fun _ h => h.1)); replace mU := zA (aY.blk hk (g' := uN) (o := .cells #[.int .i64 0, .slice none 0 0] 24 (0, 0)) (zK mU) Bo.out (by simp)); replace lV := zA (aY.blk hk (g' := wL) (o := .cells #[.int .i64 yI, mJ] 24 (0, 0)) (zK lV) rA.out (by simp)); replace HK := zA (aY.trans (by repeat (first | (with_reducible first | exact HK.out | apply aY.nW | apply cZ | apply dN | apply dh | refine fP ?_ sw.out _ | refine fP ?_ vP.out _) | exact HK.out)) hk (.inl rfl)); replace HB := zA (hb); replace HI0 := zA (hi); obtain ⟨_, _, _, _⟩ := iG lV) | ((with_reducible refine fZ (b := .append) (xs := #[.tmp 37, .tmp 41]) rfl ?_); at_builtin; refine Kd.oz gm w.heap.size rfl (.tmp 37) (.tmp 41) 22 42 (.agg #[(.int .i64 0), (.int .i64 0)]) 16 rfl Tryd.underlying22 nA rfl (by decide) (by omega) mJ oU (⟨bY, kR⟩ : aD) [.int .i64 bY, .int .i64 kR] (fun _ => True) (fun _ => False) rfl rfl ?aP (fun _ hk => hk.elim) ?aF ?aO (Below.refl _ _) ?aS ?aL ?_; (case aP => exact mR _ _ _ (⟨bY, kR⟩ : aD)); (case aF => exact (fun _ _ => trivial)); (case aO => exact (zR gZ)); (case aS => exact (tC (w := w) (g := g) (row := none) (by repeat (first | (with_reducible first | exact HK.out | apply aY.nW | apply cZ | apply dN | apply dh | refine fP ?_ sw.out _ | refine fP ?_ vP.out _) | exact HK.out)))); (case aL => have := anq.out; omega); intro aBv w26 ho hb hg hat; rw [← anr.out] at ho; have af2 := zA (ho); replace mU := zA (bZ (g := uN) (o := .cells #[.int .i64 0, .slice none 0 0] 24 (0, 0)) (zK mU) hg (Kd.oK gZ.out mU.out (by decide))); replace lV := zA (bZ (g := wL) (o := .cells #[.int .i64 yI, mJ] 24 (0, 0)) (zK lV) hg (Kd.oK gZ.out lV.out (by decide))); replace HB := zA (wR (by repeat (first | (with_reducible first | exact HB.out | apply bB | apply bH | apply bn | refine bG ?_ (aA.ge HI0.out) | refine bG ?_ vO.out | refine bG ?_ yt.out) | exact HB.out)) HL.out hb); replace HI0 := zA (aA.grown (by repeat (first | (with_reducible first | exact HI0.out | apply aA.alloc | apply aA.drewN | apply aA.drew | apply aA.jL | refine aA.far ?_ lF.out _ | refine aA.far ?_ ku.out _) | exact HI0.out)) hg (aA.own_ne HI0.out gZ.out (by decide))); replace HK := zA (aY.trans (by repeat (first | (with_reducible first | exact HK.out | apply aY.nW | apply cZ | apply dN | apply dh | refine fP ?_ sw.out _ | refine fP ?_ vP.out _) | exact HK.out)) (aY.zU hg g) (Kd.Jw gZ.out)); clear gZ; clear ho hb hg hat; obtain ⟨C9, Da, ai9⟩ := Kd.bD af2.out; subst ai9; obtain ⟨_, _, _, _⟩ := iG lV)); go_roundg k2
               case measure => have := iU.out; have := mo.out; omega
               case rel => exact ⟨(wrap64 (kR + 1)), (aaK), (ad8), (.slice C9 ad8.length Da), zv, H', ⟨by have := iU.out; have := mo.out; omega⟩, ⟨by refine jF ?_; exact Kd.aQ (Kd.aT (p := ⟨wL, 1, none⟩) (Kd.bJ af2.out lV.out (by decide)) (fun _ hk => hk.2) (.slice C9 ad8.length Da)) (fun _ hk => trivial)⟩, ⟨by refine iA oQ.out ?_; refine zk ?_; exact mU.out⟩, ⟨by refine zk ?_; refine aV (cs := #[.int .i64 yI, mJ]) ?_ 1 _ rfl; refine zk ?_; exact lV.out⟩, ⟨by repeat (first | (with_reducible first | exact HI0.out | apply aA.alloc | apply aA.drewN | apply aA.drew | apply aA.jL | refine aA.far ?_ lF.out _ | refine aA.far ?_ ku.out _) | exact HI0.out)⟩, ⟨by repeat (first | (with_reducible first | exact HK.out | apply aY.nW | apply cZ | apply dN | apply dh | refine fP ?_ sw.out _ | refine fP ?_ vP.out _) | exact HK.out)⟩, ⟨by repeat (first | (with_reducible first | exact HB.out | apply bB | apply bH | apply bn | refine bG ?_ (aA.ge HI0.out) | refine bG ?_ vO.out | refine bG ?_ yt.out) | exact HB.out)⟩⟩
             · rw [if_neg c20] at H; exact absurd H (by simp)
           · rw [if_neg c19] at H; have V7 : (TY == 1) = false := beq_eq_false_iff_ne.mpr c19; have anp : (TY != 1) = true := bne_iff_ne.mpr c19; have H' := zA H; clear H; have QG := tF.out; have QH := oQ.out; have ant := rA.out; have anu := ku.out; obtain ⟨_, _, _, _⟩ := iG lV; go_wp2_with (first | ((with_reducible refine ay (f := 16) rfl ?_); refine zG (some 34) rfl Tryd.func16 #[.pointer (some ⟨g, 0, none⟩), .int .i64 9] ?_; (with_reducible refine (bP.calls g iE sP 9 TY aaK w0 _ ?aI ?aN A18.out).mono ?_); (case aI => repeat (first | (with_reducible first | exact HI0.out | apply aA.alloc | apply aA.drewN | apply aA.drew | apply aA.jL | refine aA.far ?_ lF.out _ | refine aA.far ?_ ku.out _) | exact HI0.out)); (case aN => repeat (first | (with_reducible first | exact HB.out | apply bB | apply bH | apply bn | refine bG ?_ (aA.ge HI0.out) | refine bG ?_ vO.out | refine bG ?_ yt.out) | exact HB.out)); rintro e w32 ⟨rfl, hi, hb, hk⟩; refine ⟨_, rfl, ?_⟩; replace gZ := zA (Kd.aQ (Kd.Bg (aA.apart (show aA w0 _ g iE sP from by repeat (first | (with_reducible first | exact HI0.out | apply aA.alloc | apply aA.drewN | apply aA.drew | apply aA.jL | refine aA.far ?_ lF.out _ | refine aA.far ?_ ku.out _) | exact HI0.out)) (zR gZ) (by decide)) hk (fun _ h => h.2)) (fun _ h => h.1)); replace mU := zA (aY.blk hk (g' := uN) (o := .cells #[.int .i64 0, .slice none 0 0] 24 (0, 0)) (zK mU) Bo.out (by simp)); replace lV := zA (aY.blk hk (g' := wL) (o := .cells #[.int .i64 yI, mJ] 24 (0, 0)) (zK lV) rA.out (by simp)); replace HK := zA (aY.trans (by repeat (first | (with_reducible first | exact HK.out | apply aY.nW | apply cZ | apply dN | apply dh | refine fP ?_ sw.out _ | refine fP ?_ vP.out _) | exact HK.out)) hk (.inl rfl)); replace HB := zA (hb); replace HI0 := zA (hi))); go_roundg k2
             case measure => have := iU.out; have := mo.out; omega
             case rel => exact ⟨(wrap64 (kR + 1)), (aaK), (oU), (mJ), zv, H', ⟨by have := iU.out; have := mo.out; omega⟩, ⟨zR gZ⟩, ⟨zK mU⟩, ⟨zK lV⟩, ⟨by repeat (first | (with_reducible first | exact HI0.out | apply aA.alloc | apply aA.drewN | apply aA.drew | apply aA.jL | refine aA.far ?_ lF.out _ | refine aA.far ?_ ku.out _) | exact HI0.out)⟩, ⟨by repeat (first | (with_reducible first | exact HK.out | apply aY.nW | apply cZ | apply dN | apply dh | refine fP ?_ sw.out _ | refine fP ?_ vP.out _) | exact HK.out)⟩, ⟨by repeat (first | (with_reducible first | exact HB.out | apply bB | apply bH | apply bn | refine bG ?_ (aA.ge HI0.out) | refine bG ?_ vO.out | refine bG ?_ yt.out) | exact HB.out)⟩⟩
         · rw [if_neg c17] at H; have Kt : (bY == kR) = false := beq_eq_false_iff_ne.mpr c17; have ann : (bY != kR) = true := bne_iff_ne.mpr c17; replace H := Option.bind_eq_some_iff.mp H; obtain ⟨⟨TZ, aaL⟩, anv, H⟩ := H; (try dsimp only at H); have A33 := zA anv; clear anv; by_cases c34 : TZ = 1
           · rw [if_pos c34] at H; have KD : (TZ == 1) = true := beq_iff_eq.mpr c34; have anw : (TZ != 1) = false := bne_eq_false_iff_eq.mpr c34; clear c34; by_cases Fa : oU.length < 8796093022208
             · rw [if_pos Fa] at H; have aaM := zA Fa; clear Fa; obtain ⟨ad9, QI⟩ : ∃ y_ : List (aD), y_ = (oU ++ [(⟨bY, kR⟩ : aD)]) := ⟨_, rfl⟩; replace H : (bA.l1 k2 Oo bY (wrap64 (kR + 1)) iE aaL yI ad9) = some (r1, r2, r3) := by first | (rw [QI]; with_reducible exact H) | (have iW := (Option.bind_some _ _).symm.trans H; rw [QI]; with_reducible exact iW) | (have iW := (Option.bind_some _ _).symm.trans H; with_reducible exact iW) | with_reducible exact H | (rw [QI]; exact H) | exact H
               have anx := zA QI; clear QI; have H' := zA H; clear H; have Wd := tF.out; have We := oQ.out; have aaN := rA.out; have aaO := ku.out; obtain ⟨_, _, _, _⟩ := iG lV; go_wp2_with (first | ((with_reducible refine ay (f := 16) rfl ?_); refine zG (some 34) rfl Tryd.func16 #[.pointer (some ⟨g, 0, none⟩), .int .i64 Oo] ?_; (with_reducible refine (bP.calls g iE sP Oo TZ aaL w0 _ ?aI ?aN A33.out).mono ?_); (case aI => repeat (first | (with_reducible first | exact HI0.out | apply aA.alloc | apply aA.drewN | apply aA.drew | apply aA.jL | refine aA.far ?_ lF.out _ | refine aA.far ?_ ku.out _) | exact HI0.out)); (case aN => repeat (first | (with_reducible first | exact HB.out | apply bB | apply bH | apply bn | refine bG ?_ (aA.ge HI0.out) | refine bG ?_ vO.out | refine bG ?_ yt.out) | exact HB.out)); rintro e w39 ⟨rfl, hi, hb, hk⟩; refine ⟨_, rfl, ?_⟩; replace gZ := zA (Kd.aQ (Kd.Bg (aA.apart (show aA w0 _ g iE sP from by repeat (first | (with_reducible first | exact HI0.out | apply aA.alloc | apply aA.drewN | apply aA.drew | apply aA.jL | refine aA.far ?_ lF.out _ | refine aA.far ?_ ku.out _) | exact HI0.out)) (zR gZ) (by decide)) hk (fun _ h => h.2)) (fun _ h => h.1)); replace mU := zA (aY.blk hk (g' := uN) (o := .cells #[.int .i64 0, .slice none 0 0] 24 (0, 0)) (zK mU) Bo.out (by simp)); replace lV := zA (aY.blk hk (g' := wL) (o := .cells #[.int .i64 yI, mJ] 24 (0, 0)) (zK lV) rA.out (by simp)); replace HK := zA (aY.trans (by repeat (first | (with_reducible first | exact HK.out | apply aY.nW | apply cZ | apply dN | apply dh | refine fP ?_ sw.out _ | refine fP ?_ vP.out _) | exact HK.out)) hk (.inl rfl)); replace HB := zA (hb); replace HI0 := zA (hi); obtain ⟨_, _, _, _⟩ := iG lV) | ((with_reducible refine fZ (b := .append) (xs := #[.tmp 37, .tmp 41]) rfl ?_); at_builtin; refine Kd.oz gm w.heap.size rfl (.tmp 37) (.tmp 41) 22 42 (.agg #[(.int .i64 0), (.int .i64 0)]) 16 rfl Tryd.underlying22 nA rfl (by decide) (by omega) mJ oU (⟨bY, kR⟩ : aD) [.int .i64 bY, .int .i64 kR] (fun _ => True) (fun _ => False) rfl rfl ?aP (fun _ hk => hk.elim) ?aF ?aO (Below.refl _ _) ?aS ?aL ?_; (case aP => exact mR _ _ _ (⟨bY, kR⟩ : aD)); (case aF => exact (fun _ _ => trivial)); (case aO => exact (zR gZ)); (case aS => exact (tC (w := w) (g := g) (row := none) (by repeat (first | (with_reducible first | exact HK.out | apply aY.nW | apply cZ | apply dN | apply dh | refine fP ?_ sw.out _ | refine fP ?_ vP.out _) | exact HK.out)))); (case aL => have := aaM.out; omega); intro aBw w41 ho hb hg hat; rw [← anx.out] at ho; have af3 := zA (ho); replace mU := zA (bZ (g := uN) (o := .cells #[.int .i64 0, .slice none 0 0] 24 (0, 0)) (zK mU) hg (Kd.oK gZ.out mU.out (by decide))); replace lV := zA (bZ (g := wL) (o := .cells #[.int .i64 yI, mJ] 24 (0, 0)) (zK lV) hg (Kd.oK gZ.out lV.out (by decide))); replace HB := zA (wR (by repeat (first | (with_reducible first | exact HB.out | apply bB | apply bH | apply bn | refine bG ?_ (aA.ge HI0.out) | refine bG ?_ vO.out | refine bG ?_ yt.out) | exact HB.out)) HL.out hb); replace HI0 := zA (aA.grown (by repeat (first | (with_reducible first | exact HI0.out | apply aA.alloc | apply aA.drewN | apply aA.drew | apply aA.jL | refine aA.far ?_ lF.out _ | refine aA.far ?_ ku.out _) | exact HI0.out)) hg (aA.own_ne HI0.out gZ.out (by decide))); replace HK := zA (aY.trans (by repeat (first | (with_reducible first | exact HK.out | apply aY.nW | apply cZ | apply dN | apply dh | refine fP ?_ sw.out _ | refine fP ?_ vP.out _) | exact HK.out)) (aY.zU hg g) (Kd.Jw gZ.out)); clear gZ; clear ho hb hg hat; obtain ⟨anA, anB, atV⟩ := Kd.bD af3.out; subst atV; obtain ⟨_, _, _, _⟩ := iG lV)); go_roundg k2
               case measure => have := iU.out; have := mo.out; omega
               case rel => exact ⟨(wrap64 (kR + 1)), (aaL), (ad9), (.slice anA ad9.length anB), zv, H', ⟨by have := iU.out; have := mo.out; omega⟩, ⟨by refine jF ?_; exact Kd.aQ (Kd.aT (p := ⟨wL, 1, none⟩) (Kd.bJ af3.out lV.out (by decide)) (fun _ hk => hk.2) (.slice anA ad9.length anB)) (fun _ hk => trivial)⟩, ⟨by refine iA oQ.out ?_; refine zk ?_; exact mU.out⟩, ⟨by refine zk ?_; refine aV (cs := #[.int .i64 yI, mJ]) ?_ 1 _ rfl; refine zk ?_; exact lV.out⟩, ⟨by repeat (first | (with_reducible first | exact HI0.out | apply aA.alloc | apply aA.drewN | apply aA.drew | apply aA.jL | refine aA.far ?_ lF.out _ | refine aA.far ?_ ku.out _) | exact HI0.out)⟩, ⟨by repeat (first | (with_reducible first | exact HK.out | apply aY.nW | apply cZ | apply dN | apply dh | refine fP ?_ sw.out _ | refine fP ?_ vP.out _) | exact HK.out)⟩, ⟨by repeat (first | (with_reducible first | exact HB.out | apply bB | apply bH | apply bn | refine bG ?_ (aA.ge HI0.out) | refine bG ?_ vO.out | refine bG ?_ yt.out) | exact HB.out)⟩⟩
             · rw [if_neg Fa] at H; exact absurd H (by simp)
           · rw [if_neg c34] at H; have KD : (TZ == 1) = false := beq_eq_false_iff_ne.mpr c34; have anw : (TZ != 1) = true := bne_iff_ne.mpr c34; have H' := zA H; clear H; have anC := tF.out; have anD := oQ.out; have af4 := rA.out; have af5 := ku.out; obtain ⟨_, _, _, _⟩ := iG lV; go_wp2_with (first | ((with_reducible refine ay (f := 16) rfl ?_); refine zG (some 34) rfl Tryd.func16 #[.pointer (some ⟨g, 0, none⟩), .int .i64 Oo] ?_; (with_reducible refine (bP.calls g iE sP Oo TZ aaL w0 _ ?aI ?aN A33.out).mono ?_); (case aI => repeat (first | (with_reducible first | exact HI0.out | apply aA.alloc | apply aA.drewN | apply aA.drew | apply aA.jL | refine aA.far ?_ lF.out _ | refine aA.far ?_ ku.out _) | exact HI0.out)); (case aN => repeat (first | (with_reducible first | exact HB.out | apply bB | apply bH | apply bn | refine bG ?_ (aA.ge HI0.out) | refine bG ?_ vO.out | refine bG ?_ yt.out) | exact HB.out)); rintro e w47 ⟨rfl, hi, hb, hk⟩; refine ⟨_, rfl, ?_⟩; replace gZ := zA (Kd.aQ (Kd.Bg (aA.apart (show aA w0 _ g iE sP from by repeat (first | (with_reducible first | exact HI0.out | apply aA.alloc | apply aA.drewN | apply aA.drew | apply aA.jL | refine aA.far ?_ lF.out _ | refine aA.far ?_ ku.out _) | exact HI0.out)) (zR gZ) (by decide)) hk (fun _ h => h.2)) (fun _ h => h.1)); replace mU := zA (aY.blk hk (g' := uN) (o := .cells #[.int .i64 0, .slice none 0 0] 24 (0, 0)) (zK mU) Bo.out (by simp)); replace lV := zA (aY.blk hk (g' := wL) (o := .cells #[.int .i64 yI, mJ] 24 (0, 0)) (zK lV) rA.out (by simp)); replace HK := zA (aY.trans (by repeat (first | (with_reducible first | exact HK.out | apply aY.nW | apply cZ | apply dN | apply dh | refine fP ?_ sw.out _ | refine fP ?_ vP.out _) | exact HK.out)) hk (.inl rfl)); replace HB := zA (hb); replace HI0 := zA (hi))); go_roundg k2
             case measure => have := iU.out; have := mo.out; omega
             case rel => exact ⟨(wrap64 (kR + 1)), (aaL), (oU), (mJ), zv, H', ⟨by have := iU.out; have := mo.out; omega⟩, ⟨zR gZ⟩, ⟨zK mU⟩, ⟨zK lV⟩, ⟨by repeat (first | (with_reducible first | exact HI0.out | apply aA.alloc | apply aA.drewN | apply aA.drew | apply aA.jL | refine aA.far ?_ lF.out _ | refine aA.far ?_ ku.out _) | exact HI0.out)⟩, ⟨by repeat (first | (with_reducible first | exact HK.out | apply aY.nW | apply cZ | apply dN | apply dh | refine fP ?_ sw.out _ | refine fP ?_ vP.out _) | exact HK.out)⟩, ⟨by repeat (first | (with_reducible first | exact HB.out | apply bB | apply bH | apply bn | refine bG ?_ (aA.ge HI0.out) | refine bG ?_ vO.out | refine bG ?_ yt.out) | exact HB.out)⟩⟩
       · rw [if_neg c16] at H; have aaJ := decide_eq_false c16; clear c16; have H' := zA H; clear H; have ax5 := tF.out; have ax6 := oQ.out; have anE := rA.out; have anF := ku.out; obtain ⟨_, _, _, _⟩ := iG lV; go_wp2; go_roundg k2
         case measure => have := iU.out; have := mo.out; omega
         case rel => exact ⟨(wrap64 (bY + 1)), (sP), (oU), (mJ), zv, H', ⟨by have := iU.out; have := mo.out; omega⟩, ⟨zR gZ⟩, ⟨zK mU⟩, ⟨zK lV⟩, ⟨by repeat (first | (with_reducible first | exact HI0.out | apply aA.alloc | apply aA.drewN | apply aA.drew | apply aA.jL | refine aA.far ?_ lF.out _ | refine aA.far ?_ ku.out _) | exact HI0.out)⟩, ⟨by repeat (first | (with_reducible first | exact HK.out | apply aY.nW | apply cZ | apply dN | apply dh | refine fP ?_ sw.out _ | refine fP ?_ vP.out _) | exact HK.out)⟩, ⟨by repeat (first | (with_reducible first | exact HB.out | apply bB | apply bH | apply bn | refine bG ?_ (aA.ge HI0.out) | refine bG ?_ vO.out | refine bG ?_ yt.out) | exact HB.out)⟩⟩
   · rw [if_neg c12] at H; have Aj := decide_eq_false c12; clear c12; simp only [Option.some.injEq, Prod.mk.injEq] at H; obtain ⟨rfl, rfl, rfl⟩ := H; have af6 := tF.out; have af7 := oQ.out; have aaP := rA.out; have aaQ := ku.out; obtain ⟨_, _, _, _⟩ := iG lV; have af8 := Bo.out; have af9 := lF.out; obtain ⟨_, _, _, _⟩ := iG mU; obtain ⟨YW, YX, aja⟩ := Kd.bD gZ.out; subst aja; go_wp2; refine bodyPost_ret (results_cell_row rfl _ _ uN 24 #[.int .i64 yI, .slice YW xJ.length YX] (0, 0) _ rfl (by refine zk ?_; refine aV (cs := #[.int .i64 yI, .slice none 0 0]) ?_ 1 _ rfl; refine zk ?_; refine aV (cs := #[.int .i64 0, .slice none 0 0]) ?_ 0 _ rfl; refine zk ?_; exact mU.out) Tryd.underlying24 rfl (by kernel_rfl)) rfl ?_; exact ⟨_, ze, by refine jF ?_; exact Kd.aQ (Kd.aT (p := ⟨uN, 1, none⟩) (Kd.aT (p := ⟨uN, 0, none⟩) (Kd.bJ gZ.out mU.out (by decide)) (fun _ hk => hk.2) (.int .i64 yI)) (fun _ hk => hk.2) (.slice YW xJ.length YX)) (fun _ hk => trivial), by repeat (first | (with_reducible first | exact HI0.out | apply aA.alloc | apply aA.drewN | apply aA.drew | apply aA.jL | refine aA.far ?_ lF.out _ | refine aA.far ?_ ku.out _) | exact HI0.out), by repeat (first | (with_reducible first | exact HB.out | apply bB | apply bH | apply bn | refine bG ?_ (aA.ge HI0.out) | refine bG ?_ vO.out | refine bG ?_ yt.out) | exact HB.out), by repeat (first | (with_reducible first | exact HK.out | apply aY.nW | apply cZ | apply dN | apply dh | refine fP ?_ sw.out _ | refine fP ?_ vP.out _) | exact HK.out)⟩
def dA.l0 : Nat → Int → List (aD) → Int → List Int → Int → Option ((List (aD)) × Int)
 | 0, _, _, _, _, _ => none
 | k + 1, x1, x5, x6, x1000, Ci => if x6 > 0 then ((bP.f x1000 Ci x1).bind fun aga => ((bP.f x1000 aga.2 x1).bind fun agb => (if x5.length < 8796093022208 then (dA.l0 k x1 (x5 ++ [(⟨aga.1, agb.1⟩ : aD)]) (wrap64 (x6 - 1)) x1000 agb.2) else (none)))) else (some (x5, Ci))
def dA.f (k : Nat) (iE : List Int) (l6 : Int) (a1 : Int) : Option ((List (aD)) × Int) := (bP.f iE l6 5).bind fun QJ => (dA.l0 k a1 ([] : List (aD)) QJ.1 iE QJ.2)
theorem dA.calls (k : Nat) (g : Nat) (iE : List Int) (l6 : Int) (a1 : Int) (r1 : List (aD)) (r2 : Int) (w0 w : World) (hI : aA w0 w g iE l6) (hB : Below w0.heap.size w0 w) (h : dA.f k iE l6 a1 = some (r1, r2)) :
 Calls Tryd.prog 19 #[.pointer (some ⟨g, 0, none⟩), .int .i64 a1] w fun e w' => ∃ Db : Value, e = .returned (Db) ∧ Kd.R gm 42 w' w.heap.size (fun _ => True) Db r1 ∧ aA w0 w' g iE r2 ∧ Below w0.heap.size w0 w' ∧ aY w w' g none := by
 have wV := Tryd.underlying42; have HI0 := zA hI; have HK := zA (aY.refl w g none); have HL := zA hB.size; clear hI; have HW0 := zA hB.size; have HB := zA hB; clear hB; have H : ((bP.f iE l6 5).bind fun QJ => (dA.l0 k a1 ([] : List (aD)) QJ.1 iE QJ.2)) = some (r1, r2) := h; clear h; replace H := Option.bind_eq_some_iff.mp H; obtain ⟨⟨anG, anH⟩, A30, H⟩ := H; (try dsimp only at H); have A3 := zA A30; clear A30; have H' := zA H; clear H; go_enter Tryd.func19, Tryd.ntmps19; go_wp2_with (first | ((with_reducible refine ay (f := 16) rfl ?_); refine zG (some 8) rfl Tryd.func16 #[.pointer (some ⟨g, 0, none⟩), .int .i64 5] ?_; (with_reducible refine (bP.calls g iE l6 5 anG anH w0 _ ?aI ?aN A3.out).mono ?_); (case aI => repeat (first | (with_reducible first | exact HI0.out | apply aA.alloc | apply aA.drewN | apply aA.drew | apply aA.jL) | exact HI0.out)); (case aN => repeat (first | (with_reducible first | exact HB.out | apply bB | apply bH | apply bn | refine bG ?_ (aA.ge HI0.out)) | exact HB.out)); rintro e w4 ⟨rfl, hi, hb, hk⟩; refine ⟨_, rfl, ?_⟩; replace HK := zA (aY.trans (by repeat (first | (with_reducible first | exact HK.out | apply aY.nW | apply cZ | apply dN | apply dh) | exact HK.out)) hk (.inl rfl)); replace HB := zA (hb); replace HI0 := zA (hi))); go_loopg [5, 6] k (fun kq v5 v6 w' => ∃ (bL : List (aD)) (kY : Int) (oI : Int), v6 = .int .i64 kY ∧ ag (dA.l0 kq a1 bL kY iE oI = some (r1, r2)) ∧ ag (kq ≤ k) ∧ ag (Kd.R gm 42 w' w.heap.size (fun _ => True) v5 bL) ∧ ag (aA w0 w' g iE oI) ∧ ag (aY w w' g none) ∧ ag (Below w0.heap.size w0 w'))
 case atStart => exact ⟨(([] : List (aD))), (anG), (anH), zv, H', ⟨Nat.le_refl _⟩, ⟨Ab⟩, ⟨by repeat (first | (with_reducible first | exact HI0.out | apply aA.alloc | apply aA.drewN | apply aA.drew | apply aA.jL) | exact HI0.out)⟩, ⟨by repeat (first | (with_reducible first | exact HK.out | apply aY.nW | apply cZ | apply dN | apply dh) | exact HK.out)⟩, ⟨by repeat (first | (with_reducible first | exact HB.out | apply bB | apply bH | apply bn | refine bG ?_ (aA.ge HI0.out)) | exact HB.out)⟩⟩
 case round =>
  clear H'
  obtain ⟨bL, kY, oI, rfl, HA, iU, Ak, HI0, HK, HB⟩ := hrel; cases gk with
  | zero => exact absurd HA.out (by simp [dA.l0])
  | succ k1 =>
   have H := HA.out; clear HA; simp only [dA.l0] at H; by_cases c5 : kY > 0
   · rw [if_pos c5] at H; have pM := decide_eq_true c5; clear c5; replace H := Option.bind_eq_some_iff.mp H; obtain ⟨⟨aaR, ajb⟩, A60, H⟩ := H; (try dsimp only at H); have A6 := zA A60; clear A60; replace H := Option.bind_eq_some_iff.mp H; obtain ⟨⟨aaS, ajc⟩, A70, H⟩ := H; (try dsimp only at H); have A7 := zA A70; clear A70; by_cases c8 : bL.length < 8796093022208
     · rw [if_pos c8] at H; have atW := zA c8; clear c8; obtain ⟨anK, QK⟩ : ∃ y_ : List (aD), y_ = (bL ++ [(⟨aaR, aaS⟩ : aD)]) := ⟨_, rfl⟩; replace H : (dA.l0 k1 a1 anK (wrap64 (kY - 1)) iE ajc) = some (r1, r2) := by first | (rw [QK]; with_reducible exact H) | (have iW := (Option.bind_some _ _).symm.trans H; rw [QK]; with_reducible exact iW) | (have iW := (Option.bind_some _ _).symm.trans H; with_reducible exact iW) | with_reducible exact H | (rw [QK]; exact H) | exact H
       have anL := zA QK; clear QK; have H' := zA H; clear H; go_wp2_with (first | ((with_reducible refine ay (f := 16) rfl ?_); refine zG (some 16) rfl Tryd.func16 #[.pointer (some ⟨g, 0, none⟩), .int .i64 a1] ?_; (with_reducible refine (bP.calls g iE oI a1 aaR ajb w0 _ ?aI ?aN A6.out).mono ?_); (case aI => repeat (first | (with_reducible first | exact HI0.out | apply aA.alloc | apply aA.drewN | apply aA.drew | apply aA.jL) | exact HI0.out)); (case aN => repeat (first | (with_reducible first | exact HB.out | apply bB | apply bH | apply bn | refine bG ?_ (aA.ge HI0.out)) | exact HB.out)); rintro e w9 ⟨rfl, hi, hb, hk⟩; refine ⟨_, rfl, ?_⟩; replace Ak := zA (Kd.aQ (Kd.Bg (aA.apart (show aA w0 _ g iE oI from by repeat (first | (with_reducible first | exact HI0.out | apply aA.alloc | apply aA.drewN | apply aA.drew | apply aA.jL) | exact HI0.out)) (zR Ak) (by decide)) hk (fun _ h => h.2)) (fun _ h => h.1)); replace HK := zA (aY.trans (by repeat (first | (with_reducible first | exact HK.out | apply aY.nW | apply cZ | apply dN | apply dh) | exact HK.out)) hk (.inl rfl)); replace HB := zA (hb); replace HI0 := zA (hi)) | ((with_reducible refine ay (f := 16) rfl ?_); refine zG (some 19) rfl Tryd.func16 #[.pointer (some ⟨g, 0, none⟩), .int .i64 a1] ?_; (with_reducible refine (bP.calls g iE ajb a1 aaS ajc w0 _ ?aI ?aN A7.out).mono ?_); (case aI => repeat (first | (with_reducible first | exact HI0.out | apply aA.alloc | apply aA.drewN | apply aA.drew | apply aA.jL) | exact HI0.out)); (case aN => repeat (first | (with_reducible first | exact HB.out | apply bB | apply bH | apply bn | refine bG ?_ (aA.ge HI0.out)) | exact HB.out)); rintro e yu ⟨rfl, hi, hb, hk⟩; refine ⟨_, rfl, ?_⟩; replace Ak := zA (Kd.aQ (Kd.Bg (aA.apart (show aA w0 _ g iE ajb from by repeat (first | (with_reducible first | exact HI0.out | apply aA.alloc | apply aA.drewN | apply aA.drew | apply aA.jL) | exact HI0.out)) (zR Ak) (by decide)) hk (fun _ h => h.2)) (fun _ h => h.1)); replace HK := zA (aY.trans (by repeat (first | (with_reducible first | exact HK.out | apply aY.nW | apply cZ | apply dN | apply dh) | exact HK.out)) hk (.inl rfl)); replace HB := zA (hb); replace HI0 := zA (hi)) | ((with_reducible refine fZ (b := .append) (xs := #[.tmp 13, .tmp 21]) rfl ?_); at_builtin; refine Kd.oz gm w.heap.size rfl (.tmp 13) (.tmp 21) 22 42 (.agg #[(.int .i64 0), (.int .i64 0)]) 16 rfl Tryd.underlying22 nA rfl (by decide) (by omega) u5 bL (⟨aaR, aaS⟩ : aD) [.int .i64 aaR, .int .i64 aaS] (fun _ => True) (fun _ => False) rfl rfl ?aP (fun _ hk => hk.elim) ?aF ?aO (Below.refl _ _) ?aS ?aL ?_; (case aP => exact mR _ _ _ (⟨aaR, aaS⟩ : aD)); (case aF => exact (fun _ _ => trivial)); (case aO => exact (zR Ak)); (case aS => exact (tC (w := w) (g := g) (row := none) (by repeat (first | (with_reducible first | exact HK.out | apply aY.nW | apply cZ | apply dN | apply dh) | exact HK.out)))); (case aL => have := atW.out; omega); intro aBx QE ho hb hg hat; rw [← anL.out] at ho; have anM := zA (ho); replace HB := zA (wR (by repeat (first | (with_reducible first | exact HB.out | apply bB | apply bH | apply bn | refine bG ?_ (aA.ge HI0.out)) | exact HB.out)) HL.out hb); replace HI0 := zA (aA.grown (by repeat (first | (with_reducible first | exact HI0.out | apply aA.alloc | apply aA.drewN | apply aA.drew | apply aA.jL) | exact HI0.out)) hg (aA.own_ne HI0.out Ak.out (by decide))); replace HK := zA (aY.trans (by repeat (first | (with_reducible first | exact HK.out | apply aY.nW | apply cZ | apply dN | apply dh) | exact HK.out)) (aY.zU hg g) (Kd.Jw Ak.out)); clear Ak; clear ho hb hg hat)); go_roundg k1
       case measure => have := iU.out; omega
       case rel => exact ⟨(anK), (wrap64 (kY - 1)), (ajc), zv, H', ⟨by have := iU.out; omega⟩, ⟨zR anM⟩, ⟨by repeat (first | (with_reducible first | exact HI0.out | apply aA.alloc | apply aA.drewN | apply aA.drew | apply aA.jL) | exact HI0.out)⟩, ⟨by repeat (first | (with_reducible first | exact HK.out | apply aY.nW | apply cZ | apply dN | apply dh) | exact HK.out)⟩, ⟨by repeat (first | (with_reducible first | exact HB.out | apply bB | apply bH | apply bn | refine bG ?_ (aA.ge HI0.out)) | exact HB.out)⟩⟩
     · rw [if_neg c8] at H; exact absurd H (by simp)
   · rw [if_neg c5] at H; have pM := decide_eq_false c5; clear c5; simp only [Option.some.injEq, Prod.mk.injEq] at H; obtain ⟨rfl, rfl⟩ := H; go_wp2; go_ret; exact ⟨_, ze, by refine jF ?_; exact Ak.out, by repeat (first | (with_reducible first | exact HI0.out | apply aA.alloc | apply aA.drewN | apply aA.drew | apply aA.jL) | exact HI0.out), by repeat (first | (with_reducible first | exact HB.out | apply bB | apply bH | apply bn | refine bG ?_ (aA.ge HI0.out)) | exact HB.out), by repeat (first | (with_reducible first | exact HK.out | apply aY.nW | apply cZ | apply dN | apply dh) | exact HK.out)⟩
end Go.Proofs.YtjmdlmogdbhdhaaDoor.P
namespace Go.Proofs.YtjmdlmogdbhdhaaDoor.P
open Go.RowKit Go.Proofs.YtjmdlmogdbhdhaaDoorW.PrintWords Go.Proofs.YtjmdlmogdbhdhaaDoorW.PrintLast Go.Proofs.YtjmdlmogdbhdhaaDoorW.PrintMore
attribute [local go_sem] iI iJ jP jQ gH gI iK iL
set_option linter.unusedVariables false
set_option linter.unusedSimpArgs false
attribute [local go_sem high] VU
set_option maxHeartbeats 8000000
set_option maxRecDepth 100000
def dH.l0 : Nat → List (aD) → Int → Int → Int → Option (Bool)
 | 0, _, _, _, _ => none
 | k + 1, x0, x5, Wh, Wi => if x5 < (x0.length : Int) then (if 0 ≤ x5 then (if (((aa x0 x5).f0) == Wh && (((aa x0 x5).f1) == Wi)) = true then (some true) else (dH.l0 k x0 (wrap64 (x5 + 1)) Wh Wi)) else (none)) else (some false)
def dH.f (k : Nat) (l0 : List (aD)) (cB : Int) (dx : Int) : Option (Bool) := dH.l0 k l0 0 cB dx
theorem dH.calls (k : Nat) (A0 : Option Addr) (c0 : Nat) (l0 : List (aD)) (cB : Int) (dx : Int) (r : Bool) (w : World) (hr0 : Kd.C gm w A0 l0.length l0) (hc0 : l0.length ≤ c0) (h : dH.f k l0 cB dx = some r) :
 Calls Tryd.prog 20 #[.slice A0 l0.length c0, .agg #[.int .i64 cB, .int .i64 dx]] w fun e w' => e = .returned (.bool r) ∧ Below w.heap.size w w' := by
 have wV := Tryd.underlying42; have uh := zA hr0; have EK := zA hc0; clear hr0 hc0; have HB := zA (Below.refl w.heap.size w); have H : (dH.l0 k l0 0 cB dx) = some r := h; clear h; have H' := zA H; clear H; go_enter Tryd.func20, Tryd.ntmps20; go_wp2_with (first | ((with_reducible refine aH (N := 3) rfl ?_); refine zX (N := 3) (cs := #[.int .i64 cB, .int .i64 dx]) (t := 42) ?_; intro aaT hg w3 aG hb; have KE := zA (aG); have agc := zA (zW hg HB); have agd := zA (zW hg HB); replace HB := zA (af (zB HB) hb); clear hb aG hg)); repeat (go_quiet (first | ((with_reducible refine aH (N := 3) rfl ?_); refine zX (N := 3) (cs := #[.int .i64 cB, .int .i64 dx]) (t := 42) ?_; intro aaT hg w3 aG hb; have KE := zA (aG); have agc := zA (zW hg HB); have agd := zA (zW hg HB); replace HB := zA (af (zB HB) hb); clear hb aG hg)); try go_wp2_with (first | ((with_reducible refine aH (N := 3) rfl ?_); refine zX (N := 3) (cs := #[.int .i64 cB, .int .i64 dx]) (t := 42) ?_; intro aaT hg w3 aG hb; have KE := zA (aG); have agc := zA (zW hg HB); have agd := zA (zW hg HB); replace HB := zA (af (zB HB) hb); clear hb aG hg)))
 go_loopg [5] k (fun kq v5 w' => ∃ (bL : Int), v5 = .int .i64 bL ∧ ag (dH.l0 kq l0 bL cB dx = some r) ∧ ag (kq ≤ k) ∧ ag (w'.heap[aaT]? = some (.cells #[.int .i64 cB, .int .i64 dx] 42 (0, 0))) ∧ ag (Below w.heap.size w w'))
 case atStart => exact ⟨(0), zv, H', ⟨Nat.le_refl _⟩, ⟨zK KE⟩, ⟨zB HB⟩⟩
 case round =>
  clear H'
  obtain ⟨bL, rfl, HA, iU, KE, HB⟩ := hrel; cases gk with
  | zero => exact absurd HA.out (by simp [dH.l0])
  | succ k1 =>
   have H := HA.out; clear HA; simp only [dH.l0] at H; by_cases c4 : bL < (l0.length : Int)
   · rw [if_pos c4] at H; have qU := decide_eq_true c4; clear c4; by_cases c5 : 0 ≤ bL
     · rw [if_pos c5] at H; have pM := decide_eq_true c5; clear c5; by_cases c6 : (((aa l0 bL).f0) == cB && (((aa l0 bL).f1) == dx)) = true
       · rw [if_pos c6] at H; have yH : (((aa l0 bL).f0) == cB && (((aa l0 bL).f1) == dx)) = true := c6; (try (have YY : decide (((aa l0 bL).f0) = cB && (((aa l0 bL).f1) == dx)) = true := by simpa using c6)); (try (have ajd : (((aa l0 bL).f0) == cB && (((aa l0 bL).f1) == dx)) = true := by simpa using c6)); clear c6; obtain rfl := Option.some.inj H; have Ua : 0 ≤ (bL : Int) := zo; have Ub : bL < (l0.length : Int) := zo; obtain ⟨anN, aje, Fb, Fe⟩ := eG uh.out bL Ua Ub; cases aje; replace Fb := (zx HB Fb :); replace Fe := (zx HB Fe :); replace Ua := eq_true Ua; replace Ub := eq_true Ub; obtain ⟨_, _, _, _⟩ := iG KE; go_wp2; repeat (go_quiet (fail); try go_wp2)
         go_ret; exact ⟨ze, zB HB⟩
       · rw [if_neg c6] at H; have yH : (((aa l0 bL).f0) == cB && (((aa l0 bL).f1) == dx)) = false := by simpa using c6
         (try (have YY : decide (((aa l0 bL).f0) = cB && (((aa l0 bL).f1) == dx)) = false := by simpa using c6)); (try (have ajd : (((aa l0 bL).f0) == cB && (((aa l0 bL).f1) == dx)) = false := by simpa using c6)); (try (have aBy : ¬ (((aa l0 bL).f0) = cB && (((aa l0 bL).f1) == dx)) := by simpa using c6)); clear c6; have H' := zA H; clear H; have Ua : 0 ≤ (bL : Int) := zo; have Ub : bL < (l0.length : Int) := zo; obtain ⟨anN, aje, Fb, Fe⟩ := eG uh.out bL Ua Ub; cases aje; replace Fb := (zx HB Fb :); replace Fe := (zx HB Fe :); replace Ua := eq_true Ua; replace Ub := eq_true Ub; obtain ⟨_, _, _, _⟩ := iG KE; go_wp2; repeat (go_quiet (fail); try go_wp2)
         go_roundg k1
         case measure => have := iU.out; omega
         case rel => exact ⟨(wrap64 (bL + 1)), zv, H', ⟨by have := iU.out; omega⟩, ⟨zK KE⟩, ⟨zB HB⟩⟩
     · rw [if_neg c5] at H; exact absurd H (by simp)
   · rw [if_neg c4] at H; have qU := decide_eq_false c4; clear c4; obtain rfl := Option.some.inj H; go_wp2; repeat (go_quiet (fail); try go_wp2)
     go_ret; exact ⟨ze, zB HB⟩
def bz.l0 : Nat → List (aD) → List (aD) → Int → Option (Bool)
 | 0, _, _, _ => none
 | k + 1, x0, x1, x5 => if x5 < (x0.length : Int) then (if 0 ≤ x5 then (if x5 < (x1.length : Int) then (if (!(((aa x0 x5).f0) == ((aa x1 x5).f0)) || (!(((aa x0 x5).f1) == ((aa x1 x5).f1)))) = true then (some false) else (bz.l0 k x0 x1 (wrap64 (x5 + 1)))) else (none)) else (none)) else (some true)
def bz.f (k : Nat) (l0 : List (aD)) (l1 : List (aD)) : Option (Bool) := if (l0.length : Int) = (l1.length : Int) then (bz.l0 k l0 l1 0) else (some false)
theorem bz.calls (k : Nat) (A0 : Option Addr) (c0 : Nat) (l0 : List (aD)) (A1 : Option Addr) (c1 : Nat) (l1 : List (aD)) (r : Bool) (w : World) (hr0 : Kd.C gm w A0 l0.length l0) (hc0 : l0.length ≤ c0) (hr1 : Kd.C gm w A1 l1.length l1) (hc1 : l1.length ≤ c1) (h : bz.f k l0 l1 = some r) :
 Calls Tryd.prog 31 #[.slice A0 l0.length c0, .slice A1 l1.length c1] w fun e w' => e = .returned (.bool r) ∧ bR w w' := by
 have wV := Tryd.underlying42; have uh := zA hr0; have EK := zA hc0; clear hr0 hc0; have HR1 := zA hr1; have rX := zA hc1; clear hr1 hc1; have H : (if (l0.length : Int) = (l1.length : Int) then (bz.l0 k l0 l1 0) else (some false)) = some r := h; clear h; by_cases c3 : (l0.length : Int) = (l1.length : Int)
 · rw [if_pos c3] at H; have zF : ((l0.length : Int) == (l1.length : Int)) = true := beq_iff_eq.mpr c3; have TV : ((l0.length : Int) != (l1.length : Int)) = false := bne_eq_false_iff_eq.mpr c3; have ajf : (l0.length == l1.length) = true := by first | simpa using c3 | (simp at c3 ⊢; omega)
   clear c3; have H' := zA H; clear H; go_enter Tryd.func31, Tryd.ntmps31; go_wp2; repeat (go_quiet (fail); try go_wp2)
   go_loopg [5] k (fun kq v5 w' => ∃ (bL : Int), v5 = .int .i64 bL ∧ ag (bz.l0 kq l0 l1 bL = some r) ∧ ag (kq ≤ k) ∧ bR w w')
   case atStart => exact ⟨(0), zv, H', ⟨Nat.le_refl _⟩, by repeat (first | exact bR.refl _ | apply bR.step)⟩
   case round =>
    clear H'
    obtain ⟨bL, rfl, HA, iU, ⟨m1, rfl⟩⟩ := hrel; cases gk with
    | zero => exact absurd HA.out (by simp [bz.l0])
    | succ k1 =>
     have H := HA.out; clear HA; simp only [bz.l0] at H; by_cases c4 : bL < (l0.length : Int)
     · rw [if_pos c4] at H; have qU := decide_eq_true c4; clear c4; by_cases c5 : 0 ≤ bL
       · rw [if_pos c5] at H; have pM := decide_eq_true c5; clear c5; by_cases c6 : bL < (l1.length : Int)
         · rw [if_pos c6] at H; have yH := decide_eq_true c6; clear c6; by_cases c7 : (!(((aa l0 bL).f0) == ((aa l1 bL).f0)) || (!(((aa l0 bL).f1) == ((aa l1 bL).f1)))) = true
           · rw [if_pos c7] at H; have Am : (!(((aa l0 bL).f0) == ((aa l1 bL).f0)) || (!(((aa l0 bL).f1) == ((aa l1 bL).f1)))) = true := c7; clear c7; obtain rfl := Option.some.inj H; have Uc : 0 ≤ (bL : Int) := zo; have Ud : bL < (l0.length : Int) := zo; obtain ⟨anO, e290, aea, aeb⟩ := eG uh.out bL Uc Ud; cases e290; replace Uc := eq_true Uc; replace Ud := eq_true Ud; have Ue : 0 ≤ (bL : Int) := zo; have Uf : bL < (l1.length : Int) := zo; obtain ⟨anP, e291, aec, aed⟩ := eG HR1.out bL Ue Uf; cases e291; replace Ue := eq_true Ue; replace Uf := eq_true Uf; go_wp2; repeat (go_quiet (fail); try go_wp2)
             go_ret; exact ⟨by first | rfl | (simp; done) | (simp [*]; done), by repeat (first | exact bR.refl _ | apply bR.step)⟩
           · rw [if_neg c7] at H; have Am : (!(((aa l0 bL).f0) == ((aa l1 bL).f0)) || (!(((aa l0 bL).f1) == ((aa l1 bL).f1)))) = false := by simpa using c7
             clear c7; have H' := zA H; clear H; have Uc : 0 ≤ (bL : Int) := zo; have Ud : bL < (l0.length : Int) := zo; obtain ⟨anO, e290, aea, aeb⟩ := eG uh.out bL Uc Ud; cases e290; replace Uc := eq_true Uc; replace Ud := eq_true Ud; have Ue : 0 ≤ (bL : Int) := zo; have Uf : bL < (l1.length : Int) := zo; obtain ⟨anP, e291, aec, aed⟩ := eG HR1.out bL Ue Uf; cases e291; replace Ue := eq_true Ue; replace Uf := eq_true Uf; go_wp2; repeat (go_quiet (fail); try go_wp2)
             go_roundg k1
             case measure => have := iU.out; omega
             case rel => exact ⟨(wrap64 (bL + 1)), zv, H', ⟨by have := iU.out; omega⟩, by repeat (first | exact bR.refl _ | apply bR.step)⟩
         · rw [if_neg c6] at H; exact absurd H (by simp)
       · rw [if_neg c5] at H; exact absurd H (by simp)
     · rw [if_neg c4] at H; have qU := decide_eq_false c4; clear c4; obtain rfl := Option.some.inj H; go_wp2; repeat (go_quiet (fail); try go_wp2)
       go_ret; exact ⟨by first | rfl | (simp; done) | (simp [*]; done), by repeat (first | exact bR.refl _ | apply bR.step)⟩
 · rw [if_neg c3] at H; have zF : ((l0.length : Int) == (l1.length : Int)) = false := beq_eq_false_iff_ne.mpr c3; have TV : ((l0.length : Int) != (l1.length : Int)) = true := bne_iff_ne.mpr c3; have ajf : (l0.length == l1.length) = false := by first | simpa using c3 | (simp at c3 ⊢; omega)
   obtain rfl := Option.some.inj H; go_enter Tryd.func31, Tryd.ntmps31; go_wp2; repeat (go_quiet (fail); try go_wp2)
   go_ret; exact ⟨by first | rfl | (simp; done) | (simp [*]; done), by repeat (first | exact bR.refl _ | apply bR.step)⟩
end Go.Proofs.YtjmdlmogdbhdhaaDoor.P
namespace Go.Proofs.YtjmdlmogdbhdhaaDoor.P
open Go.RowKit Go.Proofs.YtjmdlmogdbhdhaaDoorW.PrintWords Go.Proofs.YtjmdlmogdbhdhaaDoorW.PrintLast Go.Proofs.YtjmdlmogdbhdhaaDoorW.PrintMore
attribute [local go_sem] iI iJ jP jQ gH gI iK iL
set_option linter.unusedVariables false
set_option linter.unusedSimpArgs false
set_option maxHeartbeats 8000000
set_option maxRecDepth 100000
def mO.f (k : Nat) (au : Int) (ah : List (aD)) (cB : Int) (kz : List (aD)) : Option (Bool) := if au = cB then ((bz.f k ah kz).bind fun aaU => (some aaU)) else (some false)
theorem mO.calls (k : Nat) (au : Int) (aZ : Option Addr) (aW : Nat) (ah : List (aD)) (cB : Int) (vQ : Option Addr) (vR : Nat) (kz : List (aD)) (r : Bool) (w : World) (eY : Kd.C gm w aZ ah.length ah) (eZ : ah.length ≤ aW) (IZ : Kd.C gm w vQ kz.length kz) (I1 : kz.length ≤ vR) (h : mO.f k au ah cB kz = some r) :
 Calls Tryd.prog 22 #[.agg #[.int .i64 au, .slice aZ ah.length aW], .agg #[.int .i64 cB, .slice vQ kz.length vR]] w fun e w' => e = .returned (.bool r) ∧ Below w.heap.size w w' := by
 have uk := Tryd.underlying24; have cz := zA eY; have dX := zA eZ; clear eY eZ; have MV := zA IZ; have MW := zA I1; clear IZ I1; have HB := zA (Below.refl w.heap.size w); have H : (if au = cB then ((bz.f k ah kz).bind fun aaU => (some aaU)) else (some false)) = some r := h; clear h; by_cases c3 : au = cB
 · rw [if_pos c3] at H; have zF : (au == cB) = true := beq_iff_eq.mpr c3; have TV : (au != cB) = false := bne_eq_false_iff_eq.mpr c3; clear c3; replace H := zE H; obtain ⟨aaU, A4, H⟩ := H; (try dsimp only at H); obtain rfl := Option.some.inj H; go_enter Tryd.func22, Tryd.ntmps22; go_wp2_with (first | ((with_reducible refine aH (N := 2) rfl ?_); refine zX (N := 2) (cs := #[.int .i64 au, .slice aZ ah.length aW]) (t := 24) ?_; intro anQ hg w5 aG hb; have Dc := zA (aG); have anR := zA (zW hg HB); have anS := zA (zW hg HB); replace HB := zA (af (zB HB) hb); clear hb aG hg) | ((with_reducible refine aH (N := 3) rfl ?_); refine zX (N := 3) (cs := #[.int .i64 cB, .slice vQ kz.length vR]) (t := 24) ?_; intro anT hg w6 aG hb; have aaV := zA (aG); have anU := zA (zW hg HB); have anV := zA (zW hg HB); have Hg := zA (lZ hg Dc); have Hl := zA (l5 hg Dc); replace Dc := zA (dn Dc hb); replace HB := zA (af (zB HB) hb); clear hb aG hg; have aee := Hg.out; have aef := Hl.out; obtain ⟨_, _, _, _⟩ := iG Dc; obtain ⟨_, _, _, _⟩ := iG aaV) | (go_at_call 31; (with_reducible refine (bz.calls k _ _ ah _ _ kz aaU _ ?aI ?aN ?bS ?bT A4.out).mono ?_); (case aI => exact jB cz HB); (case aN => exact dX.out); (case bS => exact jB MV HB); (case bT => exact MW.out); rintro e w' ⟨rfl, ⟨nd, rfl⟩⟩)); go_ret; exact ⟨ze, zB HB⟩
 · rw [if_neg c3] at H; have zF : (au == cB) = false := beq_eq_false_iff_ne.mpr c3; have TV : (au != cB) = true := bne_iff_ne.mpr c3; obtain rfl := Option.some.inj H; go_enter Tryd.func22, Tryd.ntmps22; go_wp2_with (first | ((with_reducible refine aH (N := 2) rfl ?_); refine zX (N := 2) (cs := #[.int .i64 au, .slice aZ ah.length aW]) (t := 24) ?_; intro anQ hg yu aG hb; have Dc := zA (aG); have anR := zA (zW hg HB); have anS := zA (zW hg HB); replace HB := zA (af (zB HB) hb); clear hb aG hg) | ((with_reducible refine aH (N := 3) rfl ?_); refine zX (N := 3) (cs := #[.int .i64 cB, .slice vQ kz.length vR]) (t := 24) ?_; intro anT hg QE aG hb; have aaV := zA (aG); have anU := zA (zW hg HB); have anV := zA (zW hg HB); have Hg := zA (lZ hg Dc); have Hl := zA (l5 hg Dc); replace Dc := zA (dn Dc hb); replace HB := zA (af (zB HB) hb); clear hb aG hg; have QL := Hg.out; have QM := Hl.out; obtain ⟨_, _, _, _⟩ := iG Dc; obtain ⟨_, _, _, _⟩ := iG aaV)); go_ret; exact ⟨ze, zB HB⟩
end Go.Proofs.YtjmdlmogdbhdhaaDoor.P
namespace Go.Proofs.YtjmdlmogdbhdhaaDoor.P
open Go.RowKit Go.Proofs.YtjmdlmogdbhdhaaDoorW.PrintWords Go.Proofs.YtjmdlmogdbhdhaaDoorW.PrintLast Go.Proofs.YtjmdlmogdbhdhaaDoorW.PrintMore
def Ev {α : Type} (f : Nat → Option α) (a : α) : Prop := ∃ k, ∀ j, k ≤ j → f j = some a
theorem Ev.const {α : Type} (a : α) : Ev (fun _ => some a) a := ⟨0, fun _ _ => rfl⟩
theorem Ev.succ {α : Type} {f : Nat → Option α} {a : α} (h : Ev (fun k => f (k + 1)) a) : Ev f a := by
  obtain ⟨k, hk⟩ := h
  refine ⟨k + 1, fun j hj => ?_⟩
  obtain ⟨i, rfl⟩ : ∃ i, j = i + 1 := ⟨j - 1, by omega⟩
  exact hk i (by omega)
theorem Ev.bind {α β : Type} {f : Nat → Option α} {g : Nat → α → Option β} {a : α} {b : β} (h1 : Ev f a) (h2 : Ev (fun k => g k a) b) : Ev (fun k => (f k).bind (g k)) b := by
  obtain ⟨k1, h1⟩ := h1
  obtain ⟨k2, h2⟩ := h2
  refine ⟨max k1 k2, fun j hj => ?_⟩
  show (f j).bind (g j) = some b
  rw [h1 j (by omega)]
  exact h2 j (by omega)
theorem Ev.pos {α : Type} {c : Prop} [Decidable c] {f g : Nat → Option α} {a : α} (h : c) (hf : Ev f a) : Ev (fun k => if c then f k else g k) a := by
  simp only [if_pos h]
  exact hf
theorem Ev.neg {α : Type} {c : Prop} [Decidable c] {f g : Nat → Option α} {a : α} (h : ¬ c) (hg : Ev g a) : Ev (fun k => if c then f k else g k) a := by
  simp only [if_neg h]
  exact hg
theorem Ev.now {α : Type} {f : Nat → Option α} {a : α} (h : Ev f a) : ∃ k, f k = some a := by
  obtain ⟨k, hk⟩ := h
  exact ⟨k, hk k (Nat.le_refl _)⟩
instance : DecidableEq aD := fun a b => if h : a.f0 = b.f0 ∧ a.f1 = b.f1 then isTrue (by cases a; cases b; simp_all) else isFalse (fun e => h (by rw [e]; exact ⟨rfl, rfl⟩))
instance : Inhabited aD := ⟨z42⟩
theorem kT (x : Int) (h0 : -9223372036854775808 ≤ x) (h1 : x ≤ 9223372036854775807) : wrap64 x = x := by unfold wrap64; omega
theorem o7 (L : List aD) (i : Nat) (h : i < L.length) : aa L (i : Int) = L[i] := by simp [aa, h]
theorem pQ (L : List Int) (i : Nat) (h : i < L.length) : rd L (i : Int) = L[i] := by simp [rd, h]
structure Jp (l : List Int) (p : Int) : Prop where
  h0 : 0 ≤ p
  h1 : p ≤ l.length
  h2 : l.length ≤ 2000
  h3 : ∀ x ∈ l, -9223372036854775808 ≤ x ∧ x ≤ 9223372036854775807
theorem ajg (l : List Int) (hl : ∀ x ∈ l, (Lit.int .i64 x).wf = true) : ∃ l2, mM.f l = some (l2, 0) ∧ Jp l2 0 := by
  refine ⟨l.take (mn (l.length : Int) 2000).toNat, ?_, ?_⟩
  · unfold mM.f mn
    split
    · rw [if_pos (by omega), if_pos (by omega)]
    · rw [if_pos (by omega), if_pos (by omega)]
  · refine ⟨Int.le_refl _, by omega, ?_, ?_⟩
    · rw [List.length_take]
      unfold mn
      split <;> omega
    · intro x hx
      have := hl x (List.mem_of_mem_take hx)
      simp [Lit.wf, IntKind.min, IntKind.max, IntKind.signed, IntKind.bits] at this
      omega
theorem ajh {l : List Int} {p : Int} (h : Jp l p) : ∃ v q, iX.f l p = some (v, q) ∧ Jp l q ∧ -9223372036854775808 ≤ v ∧ v ≤ 9223372036854775807 := by
  obtain ⟨h0, h1, h2, h3⟩ := h
  unfold iX.f
  by_cases hp : p ≥ (l.length : Int)
  · rw [if_pos hp]
    exact ⟨0, p, rfl, ⟨h0, h1, h2, h3⟩, by omega, by omega⟩
  · rw [if_neg hp, kT (p + 1) (by omega) (by omega), kT (p + 1 - 1) (by omega) (by omega), if_pos (by omega), if_pos (by omega)]
    obtain ⟨i, rfl⟩ : ∃ i : Nat, p = i := ⟨p.toNat, by omega⟩
    have hi : i < l.length := by omega
    have := h3 _ (List.getElem_mem hi)
    refine ⟨_, _, rfl, ⟨by omega, by omega, h2, h3⟩, ?_⟩
    rw [show (i : Int) + 1 - 1 = (i : Int) by omega, pQ l i hi]
    exact this
theorem aji (v n : Int) (h0 : -9223372036854775808 ≤ v) (h1 : v ≤ 9223372036854775807) (hn : 1 ≤ n) (hn2 : n ≤ 1000000) : ∃ r, jo.f v n = some r ∧ 0 ≤ r ∧ r < n := by
  unfold jo.f
  rw [if_neg (by omega), if_neg (by omega)]
  have hb1 : Int.tmod v n < n := Int.tmod_lt_of_pos v (by omega)
  have hb2 : -n < Int.tmod v n := by
    have := Int.tmod_lt_of_pos (-v) (show 0 < n by omega)
    rw [Int.neg_tmod] at this
    omega
  split
  · rw [kT _ (by omega) (by omega)]
    exact ⟨_, rfl, by omega, by omega⟩
  · exact ⟨_, rfl, by omega, hb1⟩
theorem YZ {l : List Int} {p : Int} (h : Jp l p) (n : Int) (hn : 1 ≤ n) (hn2 : n ≤ 1000000) : ∃ v q, bP.f l p n = some (v, q) ∧ Jp l q ∧ 0 ≤ v ∧ v < n := by
  obtain ⟨v, q, e1, hq, b1, b2⟩ := ajh h
  obtain ⟨r, e2, b3, b4⟩ := aji v n b1 b2 hn hn2
  refine ⟨r, q, ?_, hq, b3, b4⟩
  unfold bP.f
  rw [e1]
  show (jo.f v n).bind _ = _
  rw [e2]
  rfl
theorem QN {l : List Int} {p : Int} (h : Jp l p) (a b : Int) (h0 : 0 ≤ a) (hab : a ≤ b) (hb : b ≤ 1000) : ∃ v q, fq.f l p a b = some (v, q) ∧ Jp l q ∧ a ≤ v ∧ v ≤ b := by
  obtain ⟨v, q, e1, hq, b1, b2⟩ := YZ h (b - a + 1) (by omega) (by omega)
  refine ⟨a + v, q, ?_, hq, by omega, by omega⟩
  unfold fq.f
  rw [kT (b - a) (by omega) (by omega), kT (b - a + 1) (by omega) (by omega), e1]
  show some (wrap64 (a + v), q) = _
  rw [kT (a + v) (by omega) (by omega)]
def um (p q : aD) : Prop := p.f0 < q.f0 ∨ (p.f0 = q.f0 ∧ p.f1 < q.f1)
def InR (N : Int) (l : List aD) : Prop := ∀ p ∈ l, 0 ≤ p.f0 ∧ p.f0 < N ∧ 0 ≤ p.f1 ∧ p.f1 < N
structure jd (N : Int) (L : List aD) : Prop where
  n0 : 0 ≤ N
  n1 : N ≤ 40
  inr : InR N L
  ord : L.Pairwise um
theorem ajk {p q : aD} (h : um p q) : p ≠ q := by
  rintro rfl
  unfold um at h
  omega
theorem DI {L : List aD} (h : L.Pairwise um) : L.Nodup := List.nodup_iff_pairwise_ne.2 (h.imp (fun h => ajk h))
theorem KF {L M : List aD} (h1 : L.Pairwise um) (h2 : M.Pairwise um) (h : ∀ p, p ∈ L ↔ p ∈ M) : L = M :=
  List.Perm.eq_of_pairwise (le := um) (fun a b _ _ h1 h2 => by cases a; cases b; simp only [um] at h1 h2; omega) h1 h2 ((List.perm_ext_iff_of_nodup (DI h1) (DI h2)).2 h)
theorem Ff : ∀ (l : List Int) (a b : Int), a ≤ b → l.Pairwise (· < ·) → (∀ x ∈ l, a ≤ x ∧ x < b) → (l.length : Int) ≤ b - a
  | [], a, b, hab, _, _ => by simp; omega
  | x :: r, a, b, hab, hp, hb => by
    rw [List.pairwise_cons] at hp
    have hx := hb x (by simp)
    have := Ff r (x + 1) b (by omega) hp.2 (fun y hy => ⟨by have := hp.1 y hy; omega, (hb y (by simp [hy])).2⟩)
    simp
    omega
theorem aaW {N : Int} (hN : N ≤ 40) {p q : aD} (hp : 0 ≤ p.f0 ∧ p.f0 < N ∧ 0 ≤ p.f1 ∧ p.f1 < N) (hq : 0 ≤ q.f0 ∧ q.f0 < N ∧ 0 ≤ q.f1 ∧ q.f1 < N) (h : um p q) : p.f0 * 40 + p.f1 < q.f0 * 40 + q.f1 := by
  unfold um at h
  omega
theorem mq {N : Int} {L : List aD} (h : jd N L) : L.length ≤ 1600 := by
  have h1 : (L.map fun p => p.f0 * 40 + p.f1).Pairwise (· < ·) := by
    rw [List.pairwise_map]
    exact List.Pairwise.imp_of_mem (fun hp hq hl => aaW h.n1 (h.inr _ hp) (h.inr _ hq) hl) h.ord
  have h2 := Ff _ 0 1600 (by omega) h1 (by
    intro x hx
    obtain ⟨p, hp, rfl⟩ := List.mem_map.1 hx
    have := h.inr p hp
    have := h.n1
    omega)
  rw [List.length_map] at h2
  omega
def o8 (a b : Int) : Int := if a < b then -1 else if a > b then 1 else 0
theorem aaX (a b : Int) : cmp_Compare_int.f a b = some (o8 a b) := by
  unfold cmp_Compare_int.f cmp_isNaN_int.f o8
  simp
  split
  · rfl
  · split <;> rfl
theorem anW (a b : Int) : Ev (fun k => eX.f k [a, b]) (if a = 0 then b else a) := by
  unfold eX.f
  refine Ev.succ ?_
  simp only [eX.l0]
  rw [show (([a, b] : List Int).length : Int) = 2 from rfl]
  simp only [show ((0 : Int) < 2) = True from by simp, if_true, Int.le_refl, show rd [a, b] 0 = a from rfl]
  by_cases ha : a = 0
  · simp only [ha, if_true]
    rw [kT (0 + 1) (by omega) (by omega)]
    refine Ev.succ ?_
    simp only [eX.l0]
    simp only [show ((0 : Int) + 1 < 2) = True from by simp, show ((0 : Int) ≤ 0 + 1) = True from by simp, if_true, show ([0, b] : List Int).length = 2 from rfl, show ((0 : Int) + 1 < ((2 : Nat) : Int)) = True from by simp, show rd [0, b] (0 + 1) = b from rfl]
    by_cases hb : b = 0
    · simp only [hb, if_true]
      rw [kT (0 + 1 + 1) (by omega) (by omega)]
      refine Ev.succ ?_
      simp only [eX.l0]
      exact Ev.const _
    · simp only [hb, if_false]
      exact Ev.const _
  · simp only [ha, if_false]
    exact Ev.const _
theorem Wj (p q : aD) : Ev (fun k => gL.f k p.f0 p.f1 q.f0 q.f1) (if o8 p.f0 q.f0 = 0 then o8 p.f1 q.f1 else o8 p.f0 q.f0) := by
  simp only [gL.f, aaX, Option.bind_some]
  exact Ev.bind (anW _ _) (Ev.const _)
theorem aeg {p q : aD} (h : um p q) : (if o8 p.f0 q.f0 = 0 then o8 p.f1 q.f1 else o8 p.f0 q.f0) = -1 := by
  unfold um at h
  unfold o8
  rcases h with h | ⟨h1, h2⟩
  · simp [h]
  · simp [h1, h2]
theorem QO {N : Int} {L : List aD} (h : jd N L) : ∀ (n i : Nat), n + i = L.length → Ev (fun k => aX.l0 k L (L.length : Int) (i : Int) N L) 0
  | 0, i, hi => by
    refine Ev.succ ?_
    simp only [aX.l0]
    exact Ev.neg (by omega) (Ev.const _)
  | n + 1, i, hi => by
    have hl := mq h
    have hlt : i < L.length := by omega
    have ih := QO h n (i + 1) (by omega)
    have hw : wrap64 ((i : Int) + 1) = ((i + 1 : Nat) : Int) := by rw [kT _ (by omega) (by omega)]; rfl
    have hr := h.inr _ (List.getElem_mem hlt)
    refine Ev.succ ?_
    simp only [aX.l0, o7 L i hlt]
    refine Ev.pos (by omega) (Ev.pos (by omega) (Ev.pos (by omega) (Ev.neg (by unfold mn; split <;> omega) ?_)))
    rw [decide_eq_false (by unfold mx; split <;> omega)]
    refine Ev.succ ?_
    simp only [aX.j2, hw]
    refine Ev.neg (by simp) ?_
    cases i with
    | zero => exact Ev.neg (by omega) ih
    | succ i =>
      have hi' : i < L.length := by omega
      have hw2 : wrap64 (((i + 1 : Nat) : Int) - 1) = (i : Int) := by rw [kT _ (by omega) (by omega)]; omega
      have ho : um L[i] L[i + 1] := List.pairwise_iff_getElem.1 h.ord i (i + 1) hi' hlt (by omega)
      simp only [hw2, o7 L i hi']
      refine Ev.pos (by omega) (Ev.pos (by omega) (Ev.pos (by omega) (Ev.bind (Wj _ _) ?_)))
      rw [aeg ho]
      exact Ev.neg (by omega) ih
theorem KG {N : Int} {L : List aD} (h : jd N L) : Ev (fun k => aX.f k N L) 0 := by
  have h0 := h.n0
  have h1 := h.n1
  simp only [aX.f]
  refine Ev.neg (by omega) ?_
  rw [decide_eq_false (by omega)]
  refine Ev.succ ?_
  simp only [aX.j0]
  exact Ev.neg (by simp) (QO h L.length 0 (by omega))
structure GL (N : Int) (L : List aD) (a b : Int) : Prop where
  inr : InR N L
  ord : L.Pairwise um
  lt : ∀ p ∈ L, um p ⟨a, b⟩
theorem GL.good {N : Int} {L : List aD} {a b : Int} (h : GL N L a b) (h0 : 0 ≤ N) (h1 : N ≤ 40) : jd N L := ⟨h0, h1, h.inr, h.ord⟩
theorem GL.next {N : Int} {L : List aD} {a b : Int} (h : GL N L a b) : GL N L a (b + 1) := ⟨h.inr, h.ord, fun p hp => by have := h.lt p hp; simp only [um] at *; omega⟩
theorem GL.put {N : Int} {L : List aD} {a b : Int} (h : GL N L a b) (ha : 0 ≤ a) (ha1 : a < N) (hb : 0 ≤ b) (hb1 : b < N) : GL N (L ++ [⟨a, b⟩]) a (b + 1) := by
  refine ⟨?_, ?_, ?_⟩
  · intro p hp
    rcases List.mem_append.1 hp with hp | hp
    · exact h.inr p hp
    · obtain rfl := List.mem_singleton.1 hp
      exact ⟨ha, ha1, hb, hb1⟩
  · rw [List.pairwise_append]
    refine ⟨h.ord, List.pairwise_singleton _ _, fun p hp q hq => ?_⟩
    obtain rfl := List.mem_singleton.1 hq
    exact h.lt p hp
  · intro p hp
    rcases List.mem_append.1 hp with hp | hp
    · have := h.lt p hp
      simp only [um] at *
      omega
    · obtain rfl := List.mem_singleton.1 hp
      exact .inr ⟨rfl, by show b < b + 1; omega⟩
theorem GL.row {N : Int} {L : List aD} {a b : Int} (h : GL N L a b) (c : Int) : GL N L (a + 1) c := ⟨h.inr, h.ord, fun p hp => by have := h.lt p hp; simp only [um] at *; omega⟩
theorem QS {l : List Int} {d N : Int} (hd : 2 ≤ d ∧ d ≤ 5) (hN : 1 ≤ N ∧ N ≤ 40) (a : Nat) (ha : (a : Int) < N)
    (ih0 : ∀ p L, Jp l p → GL N L ((a + 1 : Nat) : Int) 0 → ∃ L' q, Ev (fun k => bA.l0 k d ((a + 1 : Nat) : Int) l p N L) (N, L', q) ∧ Jp l q ∧ jd N L') :
    ∀ (n b : Nat), ((n + b : Nat) : Int) = N → ∀ p L, Jp l p → GL N L a b → ∃ L' q, Ev (fun k => bA.l1 k d (a : Int) (b : Int) l p N L) (N, L', q) ∧ Jp l q ∧ jd N L'
  | 0, b, hb, p, L, hp, hL => by
    obtain ⟨L', q, e, hq, hg⟩ := ih0 p L hp (by have := hL.row 0; exact this)
    refine ⟨L', q, Ev.succ ?_, hq, hg⟩
    have hw : wrap64 ((a : Int) + 1) = ((a + 1 : Nat) : Int) := by rw [kT _ (by omega) (by omega)]; rfl
    simp only [bA.l1, hw]
    exact Ev.neg (by omega) e
  | n + 1, b, hb, p, L, hp, hL => by
    have ihn := QS hd hN a ha ih0 n (b + 1) (by omega)
    have hw : wrap64 ((b : Int) + 1) = ((b + 1 : Nat) : Int) := by rw [kT _ (by omega) (by omega)]; rfl
    have hlen := mq (hL.good (by omega) hN.2)
    have fin : ∀ (m : Int), 1 ≤ m → m ≤ 100 → ∃ L' q, Ev (fun k => (bP.f l p m).bind fun bt => (if bt.1 = 1 then (if L.length < 8796093022208 then (bA.l1 k d (a : Int) ((b + 1 : Nat) : Int) l bt.2 N (L ++ [(⟨(a : Int), (b : Int)⟩ : aD)])) else (none)) else (bA.l1 k d (a : Int) ((b + 1 : Nat) : Int) l bt.2 N L))) (N, L', q) ∧ Jp l q ∧ jd N L' := by
      intro m hm hm2
      obtain ⟨v, q, e, hq, _, _⟩ := YZ hp m hm (by omega)
      simp only [e, Option.bind_some]
      by_cases hv : v = 1
      · obtain ⟨L', q', e2, h2, h3⟩ := ihn q (L ++ [⟨a, b⟩]) hq (hL.put (by omega) ha (by omega) (by omega))
        exact ⟨L', q', Ev.pos hv (Ev.pos (by omega) e2), h2, h3⟩
      · obtain ⟨L', q', e2, h2, h3⟩ := ihn q L hq hL.next
        exact ⟨L', q', Ev.neg hv e2, h2, h3⟩
    by_cases hab : (a : Int) = (b : Int)
    · obtain ⟨L', q, e, hq, hg⟩ := fin 9 (by omega) (by omega)
      refine ⟨L', q, Ev.succ ?_, hq, hg⟩
      simp only [bA.l1, hw]
      exact Ev.pos (by omega) (Ev.pos hab e)
    · obtain ⟨L', q, e, hq, hg⟩ := fin d (by omega) (by omega)
      refine ⟨L', q, Ev.succ ?_, hq, hg⟩
      simp only [bA.l1, hw]
      exact Ev.pos (by omega) (Ev.neg hab e)
theorem QT {l : List Int} {d N : Int} (hd : 2 ≤ d ∧ d ≤ 5) (hN : 1 ≤ N ∧ N ≤ 40) :
    ∀ (n a : Nat), ((n + a : Nat) : Int) = N → ∀ p L, Jp l p → GL N L a 0 → ∃ L' q, Ev (fun k => bA.l0 k d (a : Int) l p N L) (N, L', q) ∧ Jp l q ∧ jd N L'
  | 0, a, ha, p, L, hp, hL => by
    refine ⟨L, p, Ev.succ ?_, hp, hL.good (by omega) hN.2⟩
    simp only [bA.l0]
    exact Ev.neg (by omega) (Ev.const _)
  | n + 1, a, ha, p, L, hp, hL => by
    have hn : ((N.toNat + 0 : Nat) : Int) = N := by omega
    obtain ⟨L', q, e, hq, hg⟩ := QS hd hN a (by omega) (fun p L h1 h2 => QT hd hN n (a + 1) (by omega) p L h1 h2) N.toNat 0 hn p L hp hL
    refine ⟨L', q, Ev.succ ?_, hq, hg⟩
    simp only [bA.l0]
    exact Ev.pos (by omega) e
theorem aaY {l : List Int} {p : Int} (h : Jp l p) (n : Int) (h1 : 1 ≤ n) (h2 : n ≤ 40) : ∃ N L q, Ev (fun k => bA.f k l p n) (N, L, q) ∧ Jp l q ∧ jd N L ∧ 1 ≤ N ∧ N ≤ n := by
  obtain ⟨N, q1, e1, hq1, b1, b2⟩ := QN h 1 n (by omega) h1 (by omega)
  obtain ⟨d, q2, e2, hq2, b3, b4⟩ := QN hq1 2 5 (by omega) (by omega) (by omega)
  obtain ⟨L, q, e3, hq, hg⟩ := QT (l := l) (d := d) (N := N) ⟨b3, b4⟩ ⟨b1, by omega⟩ N.toNat 0 (by omega) q2 [] hq2 ⟨by intro p hp; simp at hp, List.Pairwise.nil, by intro p hp; simp at hp⟩
  refine ⟨N, L, q, ?_, hq, hg, b1, b2⟩
  simp only [bA.f, e1, e2, Option.bind_some]
  exact e3
theorem QU {l : List Int} {N : Int} (hN : 1 ≤ N ∧ N ≤ 40) : ∀ (n : Nat), n ≤ 4 → ∀ p ps, Jp l p → InR N ps → ps.length + n ≤ 4 → ∃ ps' q, Ev (fun k => dA.l0 k N ps (n : Int) l p) (ps', q) ∧ Jp l q ∧ InR N ps' ∧ ps'.length ≤ 4
  | 0, _, p, ps, hp, hr, hl => by
    refine ⟨ps, p, Ev.succ ?_, hp, hr, by omega⟩
    simp only [dA.l0]
    exact Ev.neg (by omega) (Ev.const _)
  | n + 1, hn, p, ps, hp, hr, hl => by
    obtain ⟨u, q1, e1, hq1, b1, b2⟩ := YZ hp N hN.1 (by omega)
    obtain ⟨v, q2, e2, hq2, b3, b4⟩ := YZ hq1 N hN.1 (by omega)
    obtain ⟨ps', q, e3, hq, hr', hl'⟩ := QU hN n (by omega) q2 (ps ++ [⟨u, v⟩]) hq2 (by
      intro x hx
      rcases List.mem_append.1 hx with hx | hx
      · exact hr x hx
      · obtain rfl := List.mem_singleton.1 hx
        exact ⟨b1, b2, b3, b4⟩) (by simp; omega)
    refine ⟨ps', q, Ev.succ ?_, hq, hr', hl'⟩
    have hw : wrap64 (((n + 1 : Nat) : Int) - 1) = (n : Int) := by rw [kT _ (by omega) (by omega)]; omega
    simp only [dA.l0, e1, e2, Option.bind_some, hw]
    exact Ev.pos (by omega) (Ev.pos (by omega) e3)
theorem aaZ {l : List Int} {p N : Int} (h : Jp l p) (hN : 1 ≤ N ∧ N ≤ 40) : ∃ ps q, Ev (fun k => dA.f k l p N) (ps, q) ∧ Jp l q ∧ InR N ps ∧ ps.length ≤ 4 := by
  obtain ⟨n, q1, e1, hq1, b1, b2⟩ := YZ h 5 (by omega) (by omega)
  obtain ⟨ps, q, e2, hq, hr, hl⟩ := QU (l := l) hN n.toNat (by omega) q1 [] hq1 (by intro x hx; simp at hx) (by simp; omega)
  refine ⟨ps, q, ?_, hq, hr, hl⟩
  simp only [dA.f, e1, Option.bind_some]
  rw [show ((n.toNat : Nat) : Int) = n by omega] at e2
  exact e2
theorem aa0 (l : List aD) (x : aD) (hl : l.length ≤ 1000000) : ∀ (n i : Nat), n + i = l.length → Ev (fun k => dH.l0 k l (i : Int) x.f0 x.f1) (decide (x ∈ l.drop i))
  | 0, i, hi => by
    refine Ev.succ ?_
    simp only [dH.l0]
    refine Ev.neg (by omega) ?_
    rw [List.drop_eq_nil_of_le (by omega)]
    exact Ev.const _
  | n + 1, i, hi => by
    have hlt : i < l.length := by omega
    have hw : wrap64 ((i : Int) + 1) = ((i + 1 : Nat) : Int) := by rw [kT _ (by omega) (by omega)]; rfl
    have ih := aa0 l x hl n (i + 1) (by omega)
    refine Ev.succ ?_
    simp only [dH.l0, o7 l i hlt, hw]
    refine Ev.pos (by omega) (Ev.pos (by omega) ?_)
    rw [List.drop_eq_getElem_cons hlt]
    by_cases he : (l[i].f0 == x.f0 && l[i].f1 == x.f1) = true
    · refine Ev.pos he ?_
      have hx : x = l[i] := ((sO l[i] x).1 he).symm
      rw [decide_eq_true (by rw [← hx]; exact List.mem_cons_self)]
      exact Ev.const _
    · refine Ev.neg he ?_
      have hx : ¬ x = l[i] := fun hx => he ((sO l[i] x).2 hx.symm)
      rw [show decide (x ∈ l[i] :: l.drop (i + 1)) = decide (x ∈ l.drop (i + 1)) from decide_eq_decide.2 ⟨fun h => (List.mem_cons.1 h).resolve_left hx, List.mem_cons_of_mem _⟩]
      exact ih
theorem aa1 (l : List aD) (a b : Int) (hl : l.length ≤ 1000000) : Ev (fun k => dH.f k l a b) (decide ((⟨a, b⟩ : aD) ∈ l)) := by
  have := aa0 l ⟨a, b⟩ hl l.length 0 (by omega)
  rw [List.drop_zero] at this
  exact this
theorem Ee (l : List aD) (hl : l.length ≤ 1000000) : ∀ (n i : Nat), n + i = l.length → Ev (fun k => bz.l0 k l l (i : Int)) true
  | 0, i, hi => by
    refine Ev.succ ?_
    simp only [bz.l0]
    exact Ev.neg (by omega) (Ev.const _)
  | n + 1, i, hi => by
    have hw : wrap64 ((i : Int) + 1) = ((i + 1 : Nat) : Int) := by rw [kT _ (by omega) (by omega)]; rfl
    have ih := Ee l hl n (i + 1) (by omega)
    refine Ev.succ ?_
    simp only [bz.l0, hw]
    exact Ev.pos (by omega) (Ev.pos (by omega) (Ev.pos (by omega) (Ev.neg (by simp) ih)))
theorem vF (l : List aD) (hl : l.length ≤ 1000000) : Ev (fun k => bz.f k l l) true := by
  simp only [bz.f]
  exact Ev.pos trivial (Ee l hl l.length 0 (by omega))
theorem aeh (N : Int) (l : List aD) (hl : l.length ≤ 1000000) : Ev (fun k => mO.f k N l N l) true := by
  simp only [mO.f]
  exact Ev.pos trivial (Ev.bind (vF l hl) (Ev.const _))
theorem uV (m : List (aD × Bool)) (x y : aD) (v : Bool) : pq (lU m x v) y = if y = x then v else pq m y := by
  induction m with
  | nil =>
    simp only [lU, pq, sO]
  | cons a r ih =>
    obtain ⟨z, u⟩ := a
    simp only [lU]
    by_cases hz : YL x z = true
    · rw [if_pos hz]
      obtain rfl := (sO x z).1 hz
      simp only [pq, sO]
      by_cases hy : y = x
      · simp [hy]
      · simp [hy]
    · rw [if_neg hz]
      have hz' : ¬ x = z := fun e => hz ((sO x z).2 e)
      simp only [pq, sO, ih]
      by_cases hy : y = z
      · subst hy
        have : ¬ y = x := fun e => hz' e.symm
        simp [this]
      · simp [hy]
theorem Y0 (m : List (aD × Bool)) (x : aD) (v : Bool) : (lU m x v).map (·.1) = if x ∈ m.map (·.1) then m.map (·.1) else m.map (·.1) ++ [x] := by
  induction m with
  | nil => simp [lU]
  | cons a r ih =>
    obtain ⟨z, u⟩ := a
    simp only [lU]
    by_cases hz : YL x z = true
    · rw [if_pos hz]
      obtain rfl := (sO x z).1 hz
      simp
    · rw [if_neg hz]
      have hz' : ¬ x = z := fun e => hz ((sO x z).2 e)
      simp only [List.map_cons, ih, List.mem_cons, hz', false_or]
      by_cases hm : x ∈ r.map (·.1)
      · rw [if_pos hm, if_pos hm]
      · rw [if_neg hm, if_neg hm]
        rfl
def KN (m : List (aD × Bool)) : Prop := (m.map (·.1)).Nodup
theorem KN.put {m : List (aD × Bool)} (h : KN m) (x : aD) (v : Bool) : KN (lU m x v) := by
  unfold KN at *
  rw [Y0]
  split
  · exact h
  · rename_i hx
    rw [List.nodup_append]
    refine ⟨h, by simp, fun a ha b hb => ?_⟩
    obtain rfl := List.mem_singleton.1 hb
    rintro rfl
    exact hx ha
theorem QV : ∀ {m : List (aD × Bool)}, KN m → ∀ p, (p, true) ∈ m ↔ pq m p = true
  | [], _, p => by simp [pq]
  | (z, u) :: r, h, p => by
    unfold KN at h
    rw [List.map_cons, List.nodup_cons] at h
    have ih := QV (m := r) h.2 p
    simp only [pq]
    by_cases hz : YL p z = true
    · rw [if_pos hz]
      obtain rfl := (sO p z).1 hz
      have hn : ¬ (p, true) ∈ r := fun hm => h.1 (List.mem_map.2 ⟨_, hm, rfl⟩)
      rw [List.mem_cons]
      constructor
      · rintro (e | e)
        · exact (Prod.mk.inj e).2.symm
        · exact absurd e hn
      · intro hu
        exact .inl (by rw [hu])
    · rw [if_neg hz, List.mem_cons, ← ih]
      have hz' : ¬ p = z := fun e => hz ((sO p z).2 e)
      constructor
      · rintro (e | e)
        · exact absurd (Prod.mk.inj e).1 hz'
        · exact e
      · exact .inr
theorem Ug {m : List (aD × Bool)} (h : KN m) (p : aD) : p ∈ nN m ↔ pq m p = true := by
  rw [← QV h]
  unfold nN
  simp only [List.mem_map, List.mem_filter]
  constructor
  · rintro ⟨⟨q, u⟩, ⟨h1, h2⟩, rfl⟩
    simp only at h2
    subst h2
    exact h1
  · intro hp
    exact ⟨(p, true), ⟨hp, rfl⟩, rfl⟩
theorem Oq {m : List (aD × Bool)} (h : KN m) : (nN m).Nodup := List.Nodup.sublist (List.filter_sublist.map _) h
theorem Uh (l : List aD) : KN (zI l) ∧ ∀ p, pq (zI l) p = decide (p ∈ l) := by
  have h : ∀ (l : List aD) (m : List (aD × Bool)), KN m → KN (l.foldl (fun m p => lU m p true) m) ∧ ∀ p, pq (l.foldl (fun m p => lU m p true) m) p = (decide (p ∈ l) || pq m p) := by
    intro l
    induction l with
    | nil => intro m hm; exact ⟨hm, fun p => by simp⟩
    | cons x r ih =>
      intro m hm
      obtain ⟨h1, h2⟩ := ih (lU m x true) (hm.put x true)
      refine ⟨h1, fun p => ?_⟩
      simp only [List.foldl_cons, h2, uV, List.mem_cons]
      by_cases hp : p = x
      · simp [hp]
      · simp [hp]
  obtain ⟨h1, h2⟩ := h l [] (by simp [KN])
  exact ⟨h1, fun p => by have := h2 p; simpa [zI, pq] using this⟩
theorem KH : ∀ (l : List aD) (seen there : List (aD × Bool)), l.Nodup → (∀ p ∈ l, pq seen p = false) → KN there → ∃ m, CY l seen there = some m ∧ KN m ∧ ∀ p, pq m p = (pq there p != decide (p ∈ l))
  | [], seen, there, _, _, hk => ⟨there, rfl, hk, fun p => by simp⟩
  | x :: r, seen, there, hn, hs, hk => by
    rw [List.nodup_cons] at hn
    obtain ⟨m, e, hkm, hm⟩ := KH r (lU seen x true) (lU there x (!pq there x)) hn.2 (fun p hp => by
      rw [uV, if_neg (by rintro rfl; exact hn.1 hp)]
      exact hs p (by simp [hp])) (hk.put _ _)
    refine ⟨m, ?_, hkm, fun p => ?_⟩
    · simp only [CY, hs x (by simp), Bool.false_eq_true, if_false]
      exact e
    · rw [hm, uV]
      by_cases hp : p = x
      · subst hp
        simp [hn.1]
      · simp [hp]
theorem MX {l : List aD} (h : l.Nodup) : (Oj l).Pairwise um := by
  rw [Ku]
  have h1 := List.pairwise_mergeSort Ah Ai l
  have h2 : (l.mergeSort Af).Nodup := (List.mergeSort_perm l Af).nodup_iff.2 h
  refine (h1.and (List.nodup_iff_pairwise_ne.1 h2)).imp ?_
  rintro ⟨a, b⟩ ⟨c, d⟩ ⟨h3, h4⟩
  simp [Af] at h3
  have h5 : ¬ (a = c ∧ b = d) := fun e => h4 (by rw [e.1, e.2])
  simp only [um]
  omega
def Jq (L l R : List aD) : Prop := ∀ p, p ∈ R ↔ ((p ∈ L ∧ ¬ p ∈ l) ∨ (¬ p ∈ L ∧ p ∈ l))
theorem MZ {N : Int} {L l : List aD} (hG : jd N L) (hl : InR N l) (hn : l.Nodup) (hlen : l.length ≤ 10000) : ∃ R, jd N R ∧ Jq L l R ∧ Ev (fun k => gB.f k N L l) (N, R, 0) := by
  obtain ⟨hk1, h1⟩ := Uh L
  obtain ⟨m, e, hkm, hm⟩ := KH l [] (zI L) hn (fun p _ => rfl) hk1
  have hmem : Jq L l (Oj (nN m)) := by
    intro p
    rw [Ku, List.mem_mergeSort, Ug hkm, hm, h1]
    by_cases ha : p ∈ L <;> by_cases hb : p ∈ l <;> simp [ha, hb]
  have atX := MX (Oq hkm)
  refine ⟨Oj (nN m), ⟨hG.n0, hG.n1, fun p hp => ?_, atX⟩, hmem, ?_⟩
  · rcases (hmem p).1 hp with ⟨h3, _⟩ | ⟨_, h3⟩
    · exact hG.inr p h3
    · exact hl p h3
  · have hgl := mq hG
    simp only [gB.f]
    refine Ev.bind (KG hG) ?_
    refine Ev.pos rfl (Ev.pos (by omega) (Ev.neg ?_ ?_))
    · rw [List.any_eq_true]
      rintro ⟨p, hp, hb⟩
      have := hl p hp
      simp [su] at hb
      omega
    · rw [e]
      exact Ev.const _
theorem QW {L l R R' : List aD} (h1 : R.Pairwise um) (h2 : R'.Pairwise um) (h3 : Jq L l R) (h4 : Jq L l R') : R = R' := KF h1 h2 (fun p => (h3 p).trans (h4 p).symm)
end Go.Proofs.YtjmdlmogdbhdhaaDoor.P
namespace Go.Proofs.YtjmdlmogdbhdhaaDoor.P
open Go.RowKit Go.Proofs.YtjmdlmogdbhdhaaDoorW.PrintWords Go.Proofs.YtjmdlmogdbhdhaaDoorW.PrintLast Go.Proofs.YtjmdlmogdbhdhaaDoorW.PrintMore
attribute [local go_sem] iI iJ jP jQ gH gI iK iL
set_option linter.unusedVariables false
set_option linter.unusedSimpArgs false
set_option maxHeartbeats 8000000
set_option maxRecDepth 100000
def cO.f (a0 : Int) (a1 : Int) : Option (Bool) := if 0 ≤ (IntKind.u64.wrap (a1)) then (some ((Go.bits .and .u64 (shr .u64 a0 (IntKind.u64.wrap (a1))) 1) == 1)) else (none)
theorem cO.calls (a0 : Int) (a1 : Int) (r : Bool) (w : World) (h : cO.f a0 a1 = some r) :
 Calls Tryd.prog 77 #[.int .u64 a0, .int .i64 a1] w fun e w' => e = .returned (.bool r) ∧ bR w w' := by
 have H : (if 0 ≤ (IntKind.u64.wrap (a1)) then (some ((Go.bits .and .u64 (shr .u64 a0 (IntKind.u64.wrap (a1))) 1) == 1)) else (none)) = some r := h; clear h; obtain ⟨P8, Ui⟩ : ∃ j_ : Int, (IntKind.u64.wrap (a1)) = j_ := ⟨_, rfl⟩; replace H : (if 0 ≤ (P8) then (some ((Go.bits .and .u64 (shr .u64 a0 (P8)) 1) == 1)) else (none)) = some r := by first | (rw [Ui] at H; exact H) | (simp only [Ui] at H ⊢; exact H)
 by_cases c4 : 0 ≤ (P8)
 · rw [if_pos c4] at H; have qU := eq_true c4; have Om := decide_eq_true c4; clear c4; obtain ⟨ji5, KI⟩ : ∃ j_ : Int, (shr .u64 a0 (P8)) = j_ := ⟨_, rfl⟩; replace H : (some ((Go.bits .and .u64 (ji5) 1) == 1)) = some r := by first | (rw [KI] at H; exact H) | (simp only [KI] at H ⊢; exact H)
   have age : (a0 / 2 ^ min (P8).toNat 64) = ji5 := KI; have agf : (P8) ≤ 64 → (a0 / 2 ^ (P8).toNat) = ji5 := G7 KI; obtain rfl := Option.some.inj H; go_enter Tryd.func77, Tryd.ntmps77; go_wp2; go_ret; exact ⟨by first | rfl | (simp; done) | (simp only [← Ui, ← KI] <;> (first | rfl | simp)) | (simp [*]; done), by repeat (first | exact bR.refl _ | apply bR.step)⟩
 · rw [if_neg c4] at H; exact absurd H (by simp)
def bQ.l0 : Nat → Int → List Int → Option (List Int)
 | 0, _, _ => none
 | k + 1, x0, x3 => if x0 = 0 then (some x3) else ((bits_TrailingZeros64.f x0).bind fun t153 => (if x3.length < 17592186044416 then (bQ.l0 k (Go.bits .and .u64 x0 (IntKind.u64.wrap (x0 - 1))) (x3 ++ [t153])) else (none)))
def bQ.f (k : Nat) (a0 : Int) : Option (List Int) := bQ.l0 k a0 ([] : List Int)
theorem bQ.calls (k : Nat) (a0 : Int) (r : List Int) (w : World) (hT : kQ w) (h : bQ.f k a0 = some r) :
 Calls Tryd.prog 50 #[.int .u64 a0] w fun e w' => ∃ Db : Value, e = .returned (Db) ∧ Kd.R (Kd.int .i64) 3 w' w.heap.size (fun _ => True) Db r ∧ Below w.heap.size w w' := by
 have lM := zA hT; clear hT; have HB := zA (Below.refl w.heap.size w); have H : (bQ.l0 k a0 ([] : List Int)) = some r := h; clear h; have H' := zA H; clear H; go_enter Tryd.func50, Tryd.ntmps50; go_wp2; go_loopg [0, 3] k (fun kq v0 v3 w' => ∃ (Fg : Int) (Jr : List Int), v0 = .int .u64 Fg ∧ ag (bQ.l0 kq Fg Jr = some r) ∧ ag (kq ≤ k) ∧ ag (Kd.R (Kd.int .i64) 3 w' w.heap.size (fun _ => True) v3 Jr) ∧ ag (Below w.heap.size w w'))
 case atStart => exact ⟨(a0), (([] : List Int)), zv, H', ⟨Nat.le_refl _⟩, ⟨Ab⟩, ⟨zB HB⟩⟩
 case round =>
  clear H'; obtain ⟨Fg, Jr, rfl, HA, iU, ajl, HB⟩ := hrel; cases gk with
  | zero => exact absurd HA.out (by simp [bQ.l0])
  | succ k1 =>
   have H := HA.out; clear HA; simp only [bQ.l0] at H; by_cases c2 : Fg = 0
   · rw [if_pos c2] at H; have Mg : (Fg == 0) = true := beq_iff_eq.mpr c2; have aej : (Fg != 0) = false := bne_eq_false_iff_eq.mpr c2; clear c2; obtain rfl := Option.some.inj H; go_wp2; go_ret; exact ⟨_, ze, by refine jF ?_; exact ajl.out, zB HB⟩
   · rw [if_neg c2] at H; have Mg : (Fg == 0) = false := beq_eq_false_iff_ne.mpr c2; have aej : (Fg != 0) = true := bne_iff_ne.mpr c2; replace H := zE H; obtain ⟨t153, A3, H⟩ := H; (try dsimp only at H); by_cases c4 : Jr.length < 17592186044416
     · rw [if_pos c4] at H; have atY := zA c4; clear c4; obtain ⟨anX, QX⟩ : ∃ y_ : List Int, y_ = (Jr ++ [t153]) := ⟨_, rfl⟩; replace H : (bQ.l0 k1 (Go.bits .and .u64 Fg (IntKind.u64.wrap (Fg - 1))) anX) = some r := by first | (rw [QX]; with_reducible exact H) | (have iW := (Option.bind_some _ _).symm.trans H; rw [QX]; with_reducible exact iW) | (have iW := (Option.bind_some _ _).symm.trans H; with_reducible exact iW) | with_reducible exact H | (rw [QX]; exact H) | exact H
       have anY := zA QX; clear QX; have H' := zA H; clear H; go_wp2_with (first | ((with_reducible refine ay (f := 78) rfl ?_); refine zG (some 12) rfl Tryd.func78 #[.int .u64 Fg] ?_; (with_reducible refine (bits_TrailingZeros64.calls Fg t153 _ ?aI A3.out).mono ?_); (case aI => exact kQ.now lM.out (zB HB)); rintro e w' ⟨rfl, ⟨nd, rfl⟩⟩; refine ⟨_, rfl, ?_⟩) | ((with_reducible refine fZ (b := .append) (xs := #[.tmp 10, .tmp 13]) rfl ?_); at_builtin; refine Kd.oz (Kd.int .i64) (w0 := w) w.heap.size rfl (.tmp 10) (.tmp 13) 25 3 (.int .i64 0) 8 rfl Tryd.underlying25 info3 rfl (by decide) (by omega) u3 Jr t153 [.int .i64 t153] (fun _ => True) (fun _ => False) rfl rfl ?aP (fun _ hk => hk.elim) ?aF ?aO ?aB ?aS ?aL ?_; (case aP => exact rfl); (case aB => exact (zB HB)); (case aF => exact (fun _ _ => trivial)); (case aO => exact (zR ajl)); (case aS => exact (aJ (zB HB))); (case aL => have := atY.out; omega); intro aBz w5 ho hb hg hat; rw [← anY.out] at ho; have anZ := zA (ho); replace HB := zA (hb); clear ajl; clear ho hb hg hat)); go_roundg k1
       case measure => have := iU.out; omega
       case rel => exact ⟨(Go.bits .and .u64 Fg (IntKind.u64.wrap (Fg - 1))), (anX), zv, H', ⟨by have := iU.out; omega⟩, ⟨zR anZ⟩, ⟨zB HB⟩⟩
     · rw [if_neg c4] at H; exact absurd H (by simp)
def fM.f (a0 : Int) (a1 : Int) : Option (Int) := if 0 ≤ (IntKind.u64.wrap (a1)) then (some (Go.bits .or .u64 a0 (shl .u64 1 (IntKind.u64.wrap (a1))))) else (none)
theorem fM.calls (a0 : Int) (a1 : Int) (r : Int) (w : World) (h : fM.f a0 a1 = some r) :
 Calls Tryd.prog 51 #[.int .u64 a0, .int .i64 a1] w fun e w' => e = .returned (.int .u64 r) ∧ bR w w' := by
 have H : (if 0 ≤ (IntKind.u64.wrap (a1)) then (some (Go.bits .or .u64 a0 (shl .u64 1 (IntKind.u64.wrap (a1))))) else (none)) = some r := h; clear h; obtain ⟨P8, Ui⟩ : ∃ j_ : Int, (IntKind.u64.wrap (a1)) = j_ := ⟨_, rfl⟩; replace H : (if 0 ≤ (P8) then (some (Go.bits .or .u64 a0 (shl .u64 1 (P8)))) else (none)) = some r := by first | (rw [Ui] at H; exact H) | (simp only [Ui] at H ⊢; exact H)
 by_cases c4 : 0 ≤ (P8)
 · rw [if_pos c4] at H; have qU := eq_true c4; have Om := decide_eq_true c4; clear c4; obtain ⟨ji5, KI⟩ : ∃ j_ : Int, (shl .u64 1 (P8)) = j_ := ⟨_, rfl⟩; replace H : (some (Go.bits .or .u64 a0 (ji5))) = some r := by first | (rw [KI] at H; exact H) | (simp only [KI] at H ⊢; exact H)
   have age : (IntKind.u64.wrap (1 * 2 ^ min (P8).toNat 64)) = ji5 := KI; have agf : (P8) ≤ 64 → (IntKind.u64.wrap (1 * 2 ^ (P8).toNat)) = ji5 := G6 KI; have ax8 : (IntKind.u64.wrap (2 ^ min (P8).toNat 64)) = ji5 := by have h_ := age; rw [Int.one_mul] at h_; exact h_
   have ax9 : (P8) ≤ 64 → (IntKind.u64.wrap (2 ^ (P8).toNat)) = ji5 := fun Uj => by have h_ := agf Uj; rw [Int.one_mul] at h_; exact h_
   obtain rfl := Option.some.inj H; go_enter Tryd.func51, Tryd.ntmps51; go_wp2; go_ret; exact ⟨by first | rfl | (simp; done) | (simp only [← Ui, ← KI] <;> (first | rfl | simp)) | (simp [*]; done), by repeat (first | exact bR.refl _ | apply bR.step)⟩
 · rw [if_neg c4] at H; exact absurd H (by simp)
def fJ.l0 : Nat → Int → List Int → Int → Int → Option (Int)
 | 0, _, _, _, _ => none
 | k + 1, x3, x6, x7, x8 => if x8 < x7 then (if 0 ≤ x8 then (if x8 < (x6.length : Int) then ((fM.f x3 (rd x6 x8)).bind fun t134 => (fJ.l0 k t134 x6 x7 (wrap64 (x8 + 1)))) else (none)) else (none)) else (some x3)
def fJ.f (k : Nat) (l0 : List Int) : Option (Int) := fJ.l0 k 0 l0 (l0.length : Int) 0
theorem fJ.calls (k : Nat) (A0 : Option Addr) (c0 : Nat) (l0 : List Int) (r : Int) (w : World) (hr0 : Kd.C (Kd.int .i64) w A0 l0.length l0) (hc0 : l0.length ≤ c0) (h : fJ.f k l0 = some r) :
 Calls Tryd.prog 48 #[.slice A0 l0.length c0] w fun e w' => e = .returned (.int .u64 r) ∧ bR w w' := by
 have uh := zA hr0; have EK := zA hc0; clear hr0 hc0; have H : (fJ.l0 k 0 l0 (l0.length : Int) 0) = some r := h; clear h; have H' := zA H; clear H; go_enter Tryd.func48, Tryd.ntmps48; go_wp2; go_loopg [3, 8] k (fun kq v3 v8 w' => ∃ (Jr : Int) (gu : Int), v3 = .int .u64 Jr ∧ v8 = .int .i64 gu ∧ ag (fJ.l0 kq Jr l0 (l0.length : Int) gu = some r) ∧ ag (kq ≤ k) ∧ bR w w')
 case atStart => exact ⟨(0), (0), zv, zv, H', ⟨Nat.le_refl _⟩, by repeat (first | exact bR.refl _ | apply bR.step)⟩
 case round =>
  clear H'; obtain ⟨Jr, gu, rfl, rfl, HA, iU, ⟨m1, rfl⟩⟩ := hrel; cases gk with
  | zero => exact absurd HA.out (by simp [fJ.l0])
  | succ k1 =>
   have H := HA.out; clear HA; simp only [fJ.l0] at H; by_cases c2 : gu < (l0.length : Int)
   · rw [if_pos c2] at H; have Mg := decide_eq_true c2; clear c2; by_cases c3 : 0 ≤ gu
     · rw [if_pos c3] at H; have zF := decide_eq_true c3; clear c3; by_cases c4 : gu < (l0.length : Int)
       · rw [if_pos c4] at H; have qU := decide_eq_true c4; clear c4; replace H := zE H; obtain ⟨t134, A5, H⟩ := H; (try dsimp only at H); have H' := zA H; clear H; have ajm : 0 ≤ (gu : Int) := zo; have ajn : gu < (l0.length : Int) := zo; obtain ⟨aya, atZ, asj⟩ := Kd.eP uh.out gu ajm ajn; cases atZ; replace ajm := eq_true ajm; replace ajn := eq_true ajn; go_wp2_with (first | ((with_reducible refine ay (f := 51) rfl ?_); refine zG (some 14) rfl Tryd.func51 #[.int .u64 Jr, .int .i64 (rd l0 gu)] ?_; (with_reducible refine (fM.calls Jr (rd l0 gu) t134 _ A5.out).mono ?_); rintro e w' ⟨rfl, ⟨nd, rfl⟩⟩; refine ⟨_, rfl, ?_⟩)); go_roundg k1
         case measure => have := iU.out; omega
         case rel => exact ⟨(t134), (wrap64 (gu + 1)), zv, zv, H', ⟨by have := iU.out; omega⟩, by repeat (first | exact bR.refl _ | apply bR.step)⟩
       · rw [if_neg c4] at H; exact absurd H (by simp)
     · rw [if_neg c3] at H; exact absurd H (by simp)
   · rw [if_neg c2] at H; have Mg := decide_eq_false c2; clear c2; obtain rfl := Option.some.inj H; go_wp2; go_ret; exact ⟨by first | rfl | (simp; done) | (simp [*]; done), by repeat (first | exact bR.refl _ | apply bR.step)⟩
end Go.Proofs.YtjmdlmogdbhdhaaDoor.P
namespace Go.Proofs.YtjmdlmogdbhdhaaDoor.P
open Go.RowKit Go.Proofs.YtjmdlmogdbhdhaaDoorW.PrintWords Go.Proofs.YtjmdlmogdbhdhaaDoorW.PrintLast Go.Proofs.YtjmdlmogdbhdhaaDoorW.PrintMore
def qI (u : Int) (p : Nat → Bool) : Prop := ∃ n : Nat, u = n ∧ n < 2 ^ 64 ∧ ∀ a, n.testBit a = p a
theorem De (n : Nat) (h : n < 2 ^ 64) : IntKind.u64.wrap (n : Int) = n := by
  simp only [IntKind.wrap, IntKind.signed, IntKind.bits]
  simp
  omega
theorem Ho (n : Nat) (h : n < 2 ^ 64) : (BitVec.ofInt 64 (n : Int)).toNat = n := by
  simp
  omega
theorem qI.or {u v : Int} {p q : Nat → Bool} (hu : qI u p) (hv : qI v q) : qI (Go.bits .or .u64 u v) (fun a => p a || q a) := by
  obtain ⟨n, rfl, hn, hp⟩ := hu
  obtain ⟨m, rfl, hm, hq⟩ := hv
  have hlt : n ||| m < 2 ^ 64 := Nat.or_lt_two_pow hn hm
  refine ⟨n ||| m, ?_, hlt, fun a => by rw [Nat.testBit_or, hp, hq]⟩
  show IntKind.u64.wrap (((BitVec.ofInt 64 (n : Int)) ||| (BitVec.ofInt 64 (m : Int))).toNat : Int) = _
  rw [BitVec.toNat_or, Ho n hn, Ho m hm, De _ hlt]
theorem qI.and {u v : Int} {p q : Nat → Bool} (hu : qI u p) (hv : qI v q) : qI (Go.bits .and .u64 u v) (fun a => p a && q a) := by
  obtain ⟨n, rfl, hn, hp⟩ := hu
  obtain ⟨m, rfl, hm, hq⟩ := hv
  have hlt : n &&& m < 2 ^ 64 := Nat.lt_of_le_of_lt Nat.and_le_left hn
  refine ⟨n &&& m, ?_, hlt, fun a => by rw [Nat.testBit_and, hp, hq]⟩
  show IntKind.u64.wrap (((BitVec.ofInt 64 (n : Int)) &&& (BitVec.ofInt 64 (m : Int))).toNat : Int) = _
  rw [BitVec.toNat_and, Ho n hn, Ho m hm, De _ hlt]
theorem qI.andNot {u v : Int} {p q : Nat → Bool} (hu : qI u p) (hv : qI v q) : qI (Go.bits .andNot .u64 u v) (fun a => p a && !q a) := by
  obtain ⟨n, rfl, hn, hp⟩ := hu
  obtain ⟨m, rfl, hm, hq⟩ := hv
  have hlt : ((BitVec.ofInt 64 (n : Int)) &&& ~~~(BitVec.ofInt 64 (m : Int))).toNat < 2 ^ 64 := BitVec.isLt _
  refine ⟨((BitVec.ofInt 64 (n : Int)) &&& ~~~(BitVec.ofInt 64 (m : Int))).toNat, ?_, hlt, fun a => ?_⟩
  · show IntKind.u64.wrap (((BitVec.ofInt 64 (n : Int)) &&& ~~~(BitVec.ofInt 64 (m : Int))).toNat : Int) = _
    rw [De _ hlt]
  · rw [BitVec.testBit_toNat, BitVec.getLsbD_and, BitVec.getLsbD_not, ← BitVec.testBit_toNat, ← BitVec.testBit_toNat, Ho n hn, Ho m hm, hp, hq]
    by_cases ha : a < 64
    · simp [ha]
    · have : p a = false := by rw [← hp]; exact Nat.testBit_lt_two_pow (Nat.lt_of_lt_of_le hn (Nat.pow_le_pow_right (by omega) (by omega)))
      simp [this]
theorem qI.zero : qI 0 (fun _ => false) := ⟨0, rfl, by omega, fun a => by simp⟩
theorem qI.Ot {u : Int} {p : Nat → Bool} (h : qI u p) : u = 0 ↔ ∀ a, p a = false := by
  obtain ⟨n, rfl, hn, hp⟩ := h
  constructor
  · intro h0 a
    rw [← hp, show n = 0 by omega]
    simp
  · intro hz
    have : n = 0 := Nat.eq_of_testBit_eq (fun i => by rw [hp, hz]; simp)
    omega
theorem qI.congr {u : Int} {p q : Nat → Bool} (h : qI u p) (e : ∀ a, p a = q a) : qI u q := by
  obtain ⟨n, h1, h2, h3⟩ := h
  exact ⟨n, h1, h2, fun a => by rw [h3, e]⟩
theorem qI.unique {u v : Int} {p : Nat → Bool} (h1 : qI u p) (h2 : qI v p) : u = v := by
  obtain ⟨n, rfl, _, hp⟩ := h1
  obtain ⟨m, rfl, _, hq⟩ := h2
  rw [Nat.eq_of_testBit_eq (fun i => (hp i).trans (hq i).symm)]
theorem qI.small {u : Int} {p : Nat → Bool} (h : qI u p) {a : Nat} (ha : 64 ≤ a) : p a = false := by
  obtain ⟨n, rfl, hn, hp⟩ := h
  rw [← hp]
  exact Nat.testBit_lt_two_pow (Nat.lt_of_lt_of_le hn (Nat.pow_le_pow_right (by omega) ha))
theorem qI.one (a : Nat) (ha : a < 64) : qI (shl .u64 1 (a : Int)) (fun b => decide (b = a)) := by
  have hlt : 2 ^ a < 2 ^ 64 := Nat.pow_lt_pow_right (by omega) ha
  refine ⟨2 ^ a, ?_, hlt, fun b => ?_⟩
  · unfold shl
    rw [show min ((a : Int).toNat) IntKind.u64.bits = a by show min ((a : Int).toNat) 64 = a; omega, Int.one_mul]
    have := De (2 ^ a) hlt
    rw [← this]
    congr 1
  · rw [Nat.testBit_two_pow]
    exact decide_eq_decide.2 eq_comm
theorem Fh {u : Int} {p : Nat → Bool} (h : qI u p) (a : Nat) (ha : a < 64) : ∃ v, fM.f u (a : Int) = some v ∧ qI v (fun b => p b || decide (b = a)) := by
  refine ⟨Go.bits .or .u64 u (shl .u64 1 (a : Int)), ?_, h.or (qI.one a ha)⟩
  unfold fM.f
  rw [De a (by omega), if_pos (by omega)]
theorem Ou {u : Int} {p : Nat → Bool} (h : qI u p) (a : Nat) (ha : a < 64) : cO.f u (a : Int) = some (p a) := by
  obtain ⟨n, rfl, hn, hp⟩ := h
  unfold cO.f
  rw [De a (by omega), if_pos (by omega)]
  have e : shr .u64 (n : Int) (a : Int) = ((n / 2 ^ a : Nat) : Int) := by
    unfold shr
    rw [show min ((a : Int).toNat) IntKind.u64.bits = a by show min ((a : Int).toNat) 64 = a; omega]
    push_cast
    rfl
  have hd : n / 2 ^ a < 2 ^ 64 := Nat.lt_of_le_of_lt (Nat.div_le_self _ _) hn
  have hr : qI (shr .u64 (n : Int) (a : Int)) (fun b => n.testBit (a + b)) := ⟨n / 2 ^ a, e, hd, fun b => by rw [Nat.testBit_div_two_pow, Nat.add_comm]⟩
  have ho : qI 1 (fun b => decide (b = 0)) := ⟨1, rfl, by omega, fun b => by
    have := Nat.testBit_two_pow (n := 0) (m := b)
    rw [Nat.pow_zero] at this
    rw [this]
    exact decide_eq_decide.2 eq_comm⟩
  have hand := hr.and ho
  rw [← hp]
  by_cases hb : n.testBit a = true
  · rw [hb]
    have : Go.bits .and .u64 (shr .u64 (n : Int) (a : Int)) 1 = 1 := hand.unique (ho.congr fun b => by
      by_cases h0 : b = 0
      · subst h0; simp [hb]
      · simp [h0])
    rw [this]
    rfl
  · have hb' : n.testBit a = false := by simpa using hb
    rw [hb']
    have : Go.bits .and .u64 (shr .u64 (n : Int) (a : Int)) 1 = 0 := hand.unique (qI.zero.congr fun b => by
      by_cases h0 : b = 0
      · subst h0; simp [hb']
      · simp [h0])
    rw [this]
    rfl
theorem agh {l : List Int} (hl : ∀ x ∈ l, 0 ≤ x ∧ x < 64) (hlen : l.length ≤ 1000000) : ∀ (n i : Nat), n + i = l.length → ∀ (u : Int) (p : Nat → Bool), qI u p → ∃ v, Ev (fun k => fJ.l0 k u l (l.length : Int) (i : Int)) v ∧ qI v (fun b => p b || decide ((b : Int) ∈ l.drop i))
  | 0, i, hi, u, p, hu => by
    refine ⟨u, Ev.succ ?_, hu.congr fun b => by rw [List.drop_eq_nil_of_le (by omega)]; simp⟩
    simp only [fJ.l0]
    exact Ev.neg (by omega) (Ev.const _)
  | n + 1, i, hi, u, p, hu => by
    have hlt : i < l.length := by omega
    have hb := hl _ (List.getElem_mem hlt)
    have hw : wrap64 ((i : Int) + 1) = ((i + 1 : Nat) : Int) := by rw [kT _ (by omega) (by omega)]; rfl
    obtain ⟨w, e1, hw1⟩ := Fh hu (l[i]).toNat (by omega)
    rw [show (((l[i]).toNat : Nat) : Int) = l[i] by omega] at e1
    obtain ⟨v, e2, hv⟩ := agh hl hlen n (i + 1) (by omega) w _ hw1
    refine ⟨v, Ev.succ ?_, hv.congr fun b => ?_⟩
    · simp only [fJ.l0, pQ l i hlt, hw, e1, Option.bind_some]
      exact Ev.pos (by omega) (Ev.pos (by omega) (Ev.pos (by omega) e2))
    · rw [List.drop_eq_getElem_cons hlt]
      have : decide (b = (l[i]).toNat) = decide ((b : Int) = l[i]) := decide_eq_decide.2 (by omega)
      rw [this, Bool.or_assoc]
      congr 1
      simp only [List.mem_cons, Bool.decide_or]
theorem an0 {l : List Int} (hl : ∀ x ∈ l, 0 ≤ x ∧ x < 64) (hlen : l.length ≤ 1000000) : ∃ v, Ev (fun k => fJ.f k l) v ∧ qI v (fun b => decide ((b : Int) ∈ l)) := by
  obtain ⟨v, e, hv⟩ := agh hl hlen l.length 0 (by omega) 0 _ qI.zero
  exact ⟨v, e, hv.congr fun b => by simp⟩
def JE (p : Nat → Bool) : List Int := ((List.range 64).filter p).map (fun (a : Nat) => (a : Int))
theorem wY {p : Nat → Bool} (hp : ∀ a, 64 ≤ a → p a = false) (x : Int) : x ∈ JE p ↔ 0 ≤ x ∧ p x.toNat = true := by
  unfold JE
  rw [List.mem_map]
  constructor
  · rintro ⟨a, ha, rfl⟩
    rw [List.mem_filter] at ha
    exact ⟨by omega, by simpa using ha.2⟩
  · rintro ⟨h0, h1⟩
    refine ⟨x.toNat, List.mem_filter.2 ⟨List.mem_range.2 ?_, h1⟩, by omega⟩
    rcases Nat.lt_or_ge x.toNat 64 with h | h
    · exact h
    · rw [hp _ h] at h1; cases h1
theorem Bp (p : Nat → Bool) : (JE p).Pairwise (· < ·) := by
  unfold JE
  rw [List.pairwise_map]
  have : ((List.range 64).filter p).Pairwise (· < ·) := List.Pairwise.filter p List.pairwise_lt_range
  exact this.imp (fun h => by omega)
theorem yR {l m : List Int} (h1 : l.Pairwise (· < ·)) (h2 : m.Pairwise (· < ·)) (h : ∀ x, x ∈ l ↔ x ∈ m) : l = m :=
  List.Perm.eq_of_pairwise (le := (· < ·)) (fun a b _ _ h1 h2 => by omega) h1 h2 ((List.perm_ext_iff_of_nodup (List.nodup_iff_pairwise_ne.2 (h1.imp (fun h => by omega))) (List.nodup_iff_pairwise_ne.2 (h2.imp (fun h => by omega)))).2 h)
theorem aa2 {p : Nat → Bool} (hp : ∀ a, 64 ≤ a → p a = false) (i : Nat) (hi : i < 64) (h0 : ∀ a, a < i → p a = false) (h1 : p i = true) : JE p = (i : Int) :: JE (fun a => p a && decide (a ≠ i)) := by
  have hp' : ∀ a, 64 ≤ a → (p a && decide (a ≠ i)) = false := fun a ha => by rw [hp a ha]; rfl
  refine yR (Bp _) (List.pairwise_cons.2 ⟨fun x hx => ?_, Bp _⟩) (fun x => ?_)
  · rw [wY hp'] at hx
    obtain ⟨hx0, hx1⟩ := hx
    simp only [Bool.and_eq_true, decide_eq_true_eq] at hx1
    rcases Nat.lt_or_ge x.toNat i with h | h
    · rw [h0 _ h] at hx1; exact absurd hx1.1 (by simp)
    · omega
  · rw [List.mem_cons, wY hp, wY hp']
    constructor
    · rintro ⟨hx0, hx1⟩
      by_cases hxi : x = i
      · exact .inl hxi
      · exact .inr ⟨hx0, by simp [hx1]; omega⟩
    · rintro (rfl | ⟨hx0, hx1⟩)
      · exact ⟨by omega, by simpa using h1⟩
      · simp only [Bool.and_eq_true] at hx1
        exact ⟨hx0, hx1.1⟩
theorem aek {p : Nat → Bool} (h : ∀ a, p a = false) : JE p = [] := by
  unfold JE
  rw [List.filter_eq_nil_iff.2 (fun a _ => by simp [h])]
  rfl
theorem Y1 (c m : Nat) (j : Nat) : ((2 ^ c * (2 * m + 1)) &&& (2 ^ c * (2 * m + 1) - 1)).testBit j = ((2 ^ c * (2 * m + 1)).testBit j && decide (j ≠ c)) := by
  have hpos : 0 < 2 ^ c := Nat.two_pow_pos c
  have e1 : 2 ^ c * (2 * m + 1) = 2 ^ (c + 1) * m + 2 ^ c := by rw [Nat.pow_succ, Nat.mul_add, Nat.mul_one, Nat.mul_assoc]
  have e2 : 2 ^ c * (2 * m + 1) - 1 = 2 ^ (c + 1) * m + (2 ^ c - 1) := by rw [e1]; omega
  have l1 : 2 ^ c < 2 ^ (c + 1) := by rw [Nat.pow_succ]; omega
  rw [Nat.testBit_and, e2, e1, Nat.testBit_two_pow_mul_add _ l1, Nat.testBit_two_pow_mul_add _ (by omega : 2 ^ c - 1 < 2 ^ (c + 1))]
  by_cases hj : j < c + 1
  · rw [if_pos hj, if_pos hj, Nat.testBit_two_pow, Nat.testBit_two_pow_sub_one]
    by_cases hc : c = j
    · subst hc; simp
    · simp [hc]
  · rw [if_neg hj, if_neg hj]
    have : j ≠ c := by omega
    simp [this]
theorem ael {n : Nat} (h0 : n ≠ 0) (hn : n < 2 ^ 64) (i : Nat) (hlow : ∀ a, a < i → n.testBit a = false) (hi : n.testBit i = true) : Lib.ctz 64 n = i ∧ ∀ j, (n &&& (n - 1)).testBit j = (n.testBit j && decide (j ≠ i)) := by
  obtain ⟨m, e, hc⟩ := Lib.ctzFrom_spec 64 n (by omega) hn
  have hz : Lib.ctz 64 n = Lib.ctzFrom 64 n := by unfold Lib.ctz; rw [if_neg h0]
  generalize Lib.ctzFrom 64 n = c at e hc hz
  have hb : ∀ j, n.testBit j = (decide (j ≥ c) && (2 * m + 1).testBit (j - c)) := fun j => by rw [e, Nat.testBit_two_pow_mul]
  have hci : c = i := by
    rcases Nat.lt_trichotomy c i with h | h | h
    · have := hlow c h
      rw [hb] at this
      simp at this
    · exact h
    · have := hb i
      rw [hi, decide_eq_false (by omega)] at this
      simp at this
  subst hci
  refine ⟨hz, fun j => ?_⟩
  have := Y1 c m j
  rwa [← e] at this
theorem Ov : ∀ (n i : Nat), n + i = 64 → ∀ (u : Int) (p : Nat → Bool), qI u p → (∀ a, a < i → p a = false) → ∀ acc : List Int, acc.length ≤ i → Ev (fun k => bQ.l0 k u acc) (acc ++ JE p)
  | 0, i, hi, u, p, hu, hlow, acc, ha => by
    have hz : ∀ a, p a = false := fun a => by
      rcases Nat.lt_or_ge a i with h | h
      · exact hlow a h
      · exact hu.small (by omega)
    have h0 : u = 0 := hu.Ot.2 hz
    refine Ev.succ ?_
    simp only [bQ.l0]
    refine Ev.pos h0 ?_
    rw [aek hz, List.append_nil]
    exact Ev.const _
  | n + 1, i, hi, u, p, hu, hlow, acc, ha => by
    by_cases hpi : p i = true
    · have hu0 : u ≠ 0 := fun h => by rw [hu.Ot.1 h i] at hpi; cases hpi
      have hsm : ∀ a, 64 ≤ a → p a = false := fun a ha => hu.small ha
      obtain ⟨m, rfl, hm, hmp⟩ := hu
      obtain ⟨hc, at0⟩ := ael (n := m) (by omega) hm i (fun a h => by rw [hmp, hlow a h]) (by rw [hmp, hpi])
      have hu' : qI (Go.bits .and .u64 (m : Int) (IntKind.u64.wrap ((m : Int) - 1))) (fun a => p a && decide (a ≠ i)) := by
        have hm1 : ((m : Int) - 1) = ((m - 1 : Nat) : Int) := by omega
        rw [hm1, De (m - 1) (by omega)]
        have h1 : qI (m : Int) (fun a => m.testBit a) := ⟨m, rfl, hm, fun _ => rfl⟩
        have h2 : qI ((m - 1 : Nat) : Int) (fun a => (m - 1).testBit a) := ⟨m - 1, rfl, by omega, fun _ => rfl⟩
        exact (h1.and h2).congr fun a => by rw [← Nat.testBit_and, at0, hmp]
      have ih := Ov n (i + 1) (by omega) _ _ hu' (fun a h => by
        by_cases hai : a = i
        · subst hai; simp
        · rw [hlow a (by omega)]; rfl) (acc ++ [(i : Int)]) (by simp; omega)
      refine Ev.succ ?_
      have htz : bits_TrailingZeros64.f (m : Int) = some (i : Int) := by
        unfold bits_TrailingZeros64.f
        rw [if_pos ⟨by omega, by omega⟩, show ((m : Int)).toNat = m by omega, hc]
      simp only [bQ.l0, htz, Option.bind_some]
      refine Ev.neg hu0 (Ev.pos (by omega) ?_)
      rw [aa2 hsm i (by omega) hlow hpi]
      simpa using ih
    · have at1 : p i = false := by simpa using hpi
      exact Ov n (i + 1) (by omega) u p hu (fun a h => by
        by_cases hai : a = i
        · rw [hai]; exact at1
        · exact hlow a (by omega)) acc (by omega)
theorem DJ {u : Int} {p : Nat → Bool} (hu : qI u p) : Ev (fun k => bQ.f k u) (JE p) := by
  have := Ov 64 0 (by omega) u p hu (fun a h => absurd h (by omega)) [] (by simp)
  simpa only [bQ.f, List.nil_append] using this
end Go.Proofs.YtjmdlmogdbhdhaaDoor.P
