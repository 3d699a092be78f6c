/-
  The reference's Apply.
-/
import Derived.Test.YtojbjaklngdlcaaGreatDoorApplyW
import Derived.Test.YtojbjaklngdlcaaGreatDoorLotA
import Derived.Deep.RegionHeld3
import Derived.RegionTactic
namespace Go.Proofs.YtojbjaklngdlcaaGreatDoor
open Go.RowKit
set_option linter.unusedVariables false
set_option linter.unusedSimpArgs false

theorem RdP.ext {w : World} {A : Option Addr} {n c : Nat} {l : List Pl} (h : RdP w w.heap.size A n c l) (x : Ext w.heap.size w) : RdP x.val x.val.heap.size A n c l := (h.below x.ok).more x.ok.size
theorem RdM.ext {w : World} {A : Option Addr} {n c : Nat} {l : List Mv} (h : RdM w w.heap.size A n c l) (x : Ext w.heap.size w) : RdM x.val x.val.heap.size A n c l := (h.below x.ok).more x.ok.size
theorem grownBy_drew' {a b : World} {row : Option Nat} (h : a.grownBy b row) : a.grownBy b.drew row := ⟨h.os, h.tape, h.output, h.size, h.block⟩
theorem grownBy_drewN' {a b : World} {row : Option Nat} (h : a.grownBy b row) (k : Nat) : a.grownBy (b.drewN k) row := ⟨h.os, h.tape, h.output, h.size, h.block⟩
/-- append onto a row of the call's own, at a step of a region that draws its order; elements of k cells. -/
theorem step_appK {P : Program} {w : World} {k : Nat} {t e : TypeId} {z : Value} {bytes base B n m cm : Nat} {v : Value} {xs news : List Value} {Am : Option Addr} {ops : Array Oper} {o : Oper} {a : Act} {K : Act → World → Prop} {Q : Exit → Act → World → Prop} {D : Prop} (s x : Operand) (E : ElK P k t e z bytes)
    (hgd : o.guard = none) (ho : o.op = .call { callee := .builtin .append, args := #[s, x], argTypes := #[t, t] })
    (hs : a.eval s = v) (hx : a.eval x = .slice Am m cm)
    (hown : w.ownsRow base e k v n xs) (hr : RdK k w B Am m cm news) (h1 : ∀ u ∈ news, u.oneCell' = true)
    (hbytes : (n + m) * bytes ≤ 140737488355328) (h63 : n + m ≤ 140737488355328) (hbase : base ≤ w.heap.size)
    (h : ∀ v' w', w'.ownsRow base e k v' (n + m) (xs ++ news) → w.grownBy w' v.ownBlock → (v'.ownBlock = v.ownBlock ∨ v'.ownBlock = some w.heap.size) → K (a.put o.dst v') w') :
    if Region.wanted o (yielded ops a.tmps) = true then Oper.wp P o a w K Q else D := by
  have hw : Region.wanted o (yielded ops a.tmps) = true := by simp [Region.wanted, hgd]
  rw [if_pos hw]
  obtain ⟨v', w', hrun, h2, h3, h4⟩ := run_appK (ty := o.type) E hown hr h1 hbytes h63 hbase
  unfold Oper.wp execOp
  simp only [ho, resolve, invoke, builtin, Sem.run_bind, Sem.run_pure, Result.andThen_ok, List.map_toArray, List.map_cons, List.map_nil, hs, hx, hrun]
  exact h v' w' h2 h3 h4
/-- The lesson that was moved last. -/
def lastOf (ms : List Mv) (k : Nat) : Int := if k = 0 then -1 else (ms.getD (k - 1) ⟨0, (0, 0)⟩).lesson

end Go.Proofs.YtojbjaklngdlcaaGreatDoor
