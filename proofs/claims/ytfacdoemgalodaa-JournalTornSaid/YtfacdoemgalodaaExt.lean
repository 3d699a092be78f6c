/-
  A region that draws its order, whose operations read or make new memory: one walk, in the text's order, over all worlds that keep what lay below block B.
-/
import Derived.Test.YtfacdoemgalodaaMem
import Derived.Deep.QuietTactic
import Derived.BigQuiet
namespace Go.Proofs.Ytfacdoemgalodaa
open Go.RowKit

/-- A later world: below block B all is as it was. -/
structure Ext (B : Nat) (w : World) where
  val : World
  ok : Below B w val

instance (B : Nat) (w : World) : Nonempty (Ext B w) := ⟨⟨w, Below.refl _ _⟩⟩

theorem wp_region_ext {P : Program} {id : Nat} {Q : Exit → Act → World → Prop} {a : Act} {w : World} {l : List Oper} (B : Nat) (hm : P.follows .mixedOrders = true) (hB : Region.lexB .any l.toArray = true)
    (h : wpQuiet P l.toArray (fun w' => ∃ x : Ext B w, w' = x.val) (fun a' => ∀ w', (∃ x : Ext B w, w' = x.val) → Q .normal a' w') l a) : (Code.region id l.toArray true).wp P Q a w :=
  wp_region_quiet (C := fun w' => ∃ x : Ext B w, w' = x.val) hm hB ⟨⟨_, (Below.refl _ _).drew⟩, rfl⟩ (by simpa using h)

theorem ext_call {P : Program} {f : FuncId} {args : Array Value} {B : Nat} {w : World} {x : Ext B w} {v : Value} (hB : B ≤ w.heap.size)
    (h : Calls P f args x.val fun e w' => e = .returned v ∧ Below x.val.heap.size x.val w') : Calls P f args x.val fun e w'' => e = .returned v ∧ ∃ y : Ext B w, w'' = y.val :=
  h.mono fun _ w'' ⟨he, hb⟩ => ⟨he, ⟨w'', x.ok.trans (hb.mono (Nat.le_trans hB x.ok.size))⟩, rfl⟩
theorem ext_call_eq {P : Program} {f : FuncId} {args : Array Value} {B : Nat} {w : World} {x : Ext B w} {v : Value}
    (h : Calls P f args x.val fun e w' => e = .returned v ∧ x.val = w') : Calls P f args x.val fun e w'' => e = .returned v ∧ ∃ y : Ext B w, w'' = y.val :=
  h.mono fun _ _ ⟨he, hb⟩ => ⟨he, x, hb.symm⟩
theorem ext_call_drew {P : Program} {f : FuncId} {args : Array Value} {B : Nat} {w : World} {x : Ext B w} {v : Value}
    (h : Calls P f args x.val fun e w' => e = .returned v ∧ ∃ m, w' = x.val.drewN m) : Calls P f args x.val fun e w'' => e = .returned v ∧ ∃ y : Ext B w, w'' = y.val :=
  h.mono fun _ w'' ⟨he, m, hb⟩ => ⟨he, ⟨w'', by rw [hb]; exact below_drewN' x.ok m⟩, rfl⟩
theorem Ext.cell {B : Nat} {w : World} (x : Ext B w) {p : Addr} (hp : p.block < B) : x.val.cell? p = w.cell? p := x.ok.cell hp
theorem RdB.ext {B : Nat} {w : World} {A : Option Addr} {n c : Nat} {l : List UInt8} (h : RdB w B A n c l) (x : Ext B w) (hB : B ≤ w.heap.size) : RdB x.val x.val.heap.size A n c l := (h.below x.ok).more (Nat.le_trans hB x.ok.size)

/-- append onto a row of the call's own, at a step of a region that draws its order. -/
theorem step_app {P : Program} {w : World} {t e : TypeId} {z : Value} {bytes base B n m cm : Nat} {v : Value} {xs news : List Value} {Am : Option Addr} {ops : Array Oper} {o : Oper} {a : Act} {K : Act → World → Prop} {Q : Exit → Act → World → Prop} {D : Prop} (s x : Operand) (E : El P t e z bytes)
    (hgd : o.guard = none) (ho : o.op = .call { callee := .builtin .append, args := #[s, x], argTypes := #[t, t] })
    (hs : a.eval s = v) (hx : a.eval x = .slice Am m cm)
    (hown : w.ownsRow base e 1 v n xs) (hr : Rd w B Am m cm news) (h1 : ∀ u ∈ news, u.oneCell' = true)
    (hbytes : (n + m) * bytes ≤ 140737488355328) (h63 : n + m ≤ 140737488355328) (hbase : base ≤ w.heap.size)
    (h : ∀ v' w', w'.ownsRow base e 1 v' (n + m) (xs ++ news) → w.grownBy w' v.ownBlock → (v'.ownBlock = v.ownBlock ∨ v'.ownBlock = some w.heap.size) → K (a.put o.dst v') w') :
    if Region.wanted o (yielded ops a.tmps) = true then Oper.wp P o a w K Q else D := by
  have hw : Region.wanted o (yielded ops a.tmps) = true := by simp [Region.wanted, hgd]
  rw [if_pos hw]
  obtain ⟨v', w', hrun, h2, h3, h4⟩ := run_app (ty := o.type) E hown hr h1 hbytes h63 hbase
  unfold Oper.wp execOp
  simp only [ho, resolve, invoke, builtin, Sem.run_bind, Sem.run_pure, Result.andThen_ok, List.map_toArray, List.map_cons, List.map_nil, hs, hx, hrun]
  exact h v' w' h2 h3 h4
/-- One new cell, for an append of one element. -/
theorem Rd.one (w : World) (u : Value) (t : TypeId) : Rd (w.alloc (.cells #[u] t)) (w.heap.size + 1) (some ⟨w.heap.size, 0, none⟩) 1 1 [u] := Rd.new w #[u] t 1 rfl (by omega)
theorem own_drew {w : World} {base n size : Nat} {e : TypeId} {v : Value} {xs : List Value} (h : w.ownsRow base e size v n xs) : w.drew.ownsRow base e size v n xs := h
theorem own_drewN {w : World} {base n size : Nat} {e : TypeId} {v : Value} {xs : List Value} (h : w.ownsRow base e size v n xs) (k : Nat) : (w.drewN k).ownsRow base e size v n xs := h
end Go.Proofs.Ytfacdoemgalodaa
