/-
  Words for the reference's All: weeks by appending a place, and the growing list of them.
-/
import Derived.Test.YtojbjaklngdlcaaGreatDoorLive4
import Derived.Test.YtojbjaklngdlcaaGreatDoorFixR
namespace Go.Proofs.YtojbjaklngdlcaaGreatDoor
open Go.RowKit Go.Shelf
set_option linter.unusedVariables false
set_option linter.unusedSimpArgs false
/-- One place more. -/
theorem Wk.dec_snoc {S R n k d : Nat} (hk : k < (S * R) ^ n) (hd : d < S * R) : Wk.dec S R (n + 1) (k * (S * R) + d) = Wk.dec S R n k ++ [Wk.pla R d] := by
  have hall : ∀ p ∈ Wk.dec S R n k ++ [Wk.pla R d], Wk.placed S R p := by
    intro p hp
    rcases List.mem_append.1 hp with h | h
    · exact Wk.dec_placed n k hk p h
    · rw [List.mem_singleton] at h; subst h; exact Wk.pla_placed hd
  have h1 := Wk.dec_val _ hall
  rw [Wk.val_append, Wk.val_dec n k hk, List.length_append, Wk.dec_length] at h1
  simpa [Wk.val, Wk.dig_pla] using h1
/-- append as an operation of a region, elements of k cells. -/
theorem oper_appK {P : Program} {w : World} {k : Nat} {t e : TypeId} {z : Value} {bytes base B n m cm : Nat} {v : Value} {xs news : List Value} {Am : Option Addr} {o : Oper} {a : Act} {K : Act → World → Prop} {Q : Exit → Act → World → Prop} (s x : Operand) (E : ElK P k t e z bytes)
    (hown : w.ownsRow base e k v n xs) (hr : RdK k w B Am m cm news) (h1 : ∀ u ∈ news, u.oneCell' = true)
    (hbytes : (n + m) * bytes ≤ 140737488355328) (h63 : n + m ≤ 140737488355328) (hbase : base ≤ w.heap.size)
    (ho : o.op = .call { callee := .builtin .append, args := #[s, x], argTypes := #[t, t] })
    (hs : a.eval s = v) (hx : a.eval x = .slice Am m cm)
    (h : ∀ v' w', w'.ownsRow base e k v' (n + m) (xs ++ news) → w.grownBy w' v.ownBlock → (v'.ownBlock = v.ownBlock ∨ v'.ownBlock = some w.heap.size) → K (a.put o.dst v') w') :
    o.wp P a w K Q := by
  obtain ⟨v', w', hrun, h2, h3, h4⟩ := run_appK (ty := o.type) E hown hr h1 hbytes h63 hbase
  unfold Oper.wp execOp
  simp only [ho, resolve, invoke, builtin, Sem.run_bind, Sem.run_pure, Result.andThen_ok, List.map_toArray, List.map_cons, List.map_nil, hs, hx, hrun]
  exact h v' w' h2 h3 h4
theorem cell_keep {w w' : World} {p : Addr} {u : Value} (h : w.cell? p = some u) (hk : w'.heap[p.block]? = w.heap[p.block]?) : w'.cell? p = some u := by
  rw [← h]; unfold World.cell?; rw [hk]
theorem own_keep {r : Option Nat} {wd W : World} {B e size n : Nat} {v : Value} {xs : List Value} (h : wd.ownsRow B e size v n xs) (hk : KeepR r wd W) (hne : ∀ g, v.ownBlock = some g → some g ≠ r) : W.ownsRow B e size v n xs := by
  refine ⟨h.1, ?_⟩
  rcases h.2 with hn | ⟨g, cap, cur, rfl, hbg, hgg, rest⟩
  · exact .inl hn
  · exact .inr ⟨g, cap, cur, rfl, hbg, (hk.2 g (Array.getElem?_eq_some_iff.1 hgg).1 (hne g rfl)).trans hgg, rest⟩
theorem KeepR.weaken {w W : World} (h : KeepR none w W) (r : Option Nat) : KeepR r w W := ⟨h.1, fun b h1 _ => h.2 b h1 (by simp)⟩
/-- The growing list: m weeks of L places, all made since wr. -/
def MoreAt (wr : World) (L S R m : Nat) (v : Value) (W : World) : Prop :=
  ∃ xs, W.ownsRow wr.heap.size 31 1 v m xs ∧
    (∀ (j : Nat) (u : Value), xs[j]? = some u → ∃ A c, u = .slice A L c ∧ W.ownsRow wr.heap.size 62 2 u L (pv (Wk.dec S R L j))) ∧ Below wr.heap.size wr W
theorem MoreAt.below {wr W W' : World} {L S R m : Nat} {v : Value} (h : MoreAt wr L S R m v W) (hb : Below W.heap.size W W') : MoreAt wr L S R m v W' := by
  obtain ⟨xs, h1, h2, h3⟩ := h
  refine ⟨xs, own_below h1 hb, fun j u hu => ?_, h3.trans (hb.mono h3.size)⟩
  obtain ⟨A, c, e1, e2⟩ := h2 j u hu
  exact ⟨A, c, e1, own_below e2 hb⟩
/-- One week more. -/
theorem more_step {wr wd X w1 : World} {L S R m : Nat} {v v' : Value} {xs : List Value} {A2 : Option Addr} {c2 : Nat}
    (hown : wd.ownsRow wr.heap.size 31 1 v m xs) (hel : ∀ (j : Nat) (u : Value), xs[j]? = some u → ∃ A c, u = .slice A L c ∧ wd.ownsRow wr.heap.size 62 2 u L (pv (Wk.dec S R L j)))
    (hk : KeepR none wd X) (hbw : Below wr.heap.size wr X) (hB : wr.heap.size ≤ wd.heap.size)
    (hrow : X.ownsRow wd.heap.size 62 2 (.slice A2 L c2) L (pv (Wk.dec S R L m)))
    (hnew : w1.ownsRow wr.heap.size 31 1 v' (m + 1) (xs ++ [.slice A2 L c2])) (hg : X.grownBy w1 v.ownBlock) :
    MoreAt wr L S R (m + 1) v' w1 ∧ KeepR v.ownBlock wd w1 := by
  have hlen : xs.length = m := by have := hown.1; omega
  have hownX := own_keep hown hk (by simp)
  have ke : ∀ {u : Value} {ys : List Value} {B n : Nat}, X.ownsRow B 62 2 u n ys → w1.ownsRow B 62 2 u n ys := fun {u ys B n} hu => by
    refine own_grown' hu hg (fun g hgu e => ?_)
    rcases own_apart hu hownX (by decide) with h | h
    · rw [h] at hgu; cases hgu
    · exact h (by rw [hgu, e])
  refine ⟨⟨xs ++ [.slice A2 L c2], hnew, fun j u hu => ?_, hbw.grown hg hbw.size (own_lt hownX)⟩, ⟨Nat.le_trans hk.1 hg.size, fun b hb1 hb2 => (hg.block b (Nat.lt_of_lt_of_le hb1 hk.1) hb2).trans (hk.2 b hb1 (by simp))⟩⟩
  by_cases hj : j < m
  · rw [List.getElem?_append_left (by omega)] at hu
    obtain ⟨A, c, e1, e2⟩ := hel j u hu
    exact ⟨A, c, e1, ke (own_keep e2 hk (by simp))⟩
  · rw [List.getElem?_append_right (by omega), hlen] at hu
    have hji : j = m := by
      have := (List.getElem?_eq_some_iff.1 hu).1
      simp at this
      omega
    subst hji
    simp at hu
    subst hu
    exact ⟨A2, c2, rfl, ke (own_mono hrow hB)⟩
/-- The whole list, read. -/
theorem MoreAt.rd {wr W : World} {L S R m : Nat} {v : Value} (h : MoreAt wr L S R m v W) (hs : S ≤ 1000 ∧ R ≤ 1000 ∧ L ≤ 1000) (hm : m = (S * R) ^ L) : ∃ A c, v = .slice A m c ∧ RdWs W W.heap.size A m c ((List.range m).map (Wk.dec S R L)) := by
  obtain ⟨xs, h1, h2, h3⟩ := h
  obtain ⟨A2, c2, e2, hr2⟩ := own_rdK h1
  have hxl : xs.length = m := by have := h1.1; omega
  refine ⟨A2, c2, e2, xs.map fun u => [u], by simp [hxl], by simp, ?_, fun i x r hi hr => ?_⟩
  · rw [← List.flatMap_def, List.flatMap_singleton']; exact hr2
  · rw [List.getElem?_map] at hi hr
    obtain ⟨j, hj, rfl⟩ := Option.map_eq_some_iff.1 hi
    obtain ⟨u, hu, rfl⟩ := Option.map_eq_some_iff.1 hr
    obtain ⟨hjl, rfl⟩ := List.getElem?_eq_some_iff.1 hj
    rw [List.length_range] at hjl
    rw [List.getElem_range]
    obtain ⟨A, c, rfl, ho⟩ := h2 _ u hu
    refine ⟨A, c, by rw [Wk.dec_length], ?_⟩
    rw [Wk.dec_length]
    exact rdP_of_own ho (dec_ok hs (by rw [← hm]; exact hjl))
/-- A list of the one empty week. -/
theorem RdWs.one {w : World} {b : Nat} {t : TypeId} {fr : Nat × Nat} (h : w.heap[b]? = some (.cells #[.slice none 0 0] t fr)) (S R : Nat) : RdWs w w.heap.size (some ⟨b, 0, none⟩) 1 1 ((List.range 1).map (Wk.dec S R 0)) := by
  refine ⟨[[.slice none 0 0]], by simp, by simp, RdK.blk 1 h rfl (by omega), fun i x r hi hr => ?_⟩
  have : i = 0 := by
    have := (List.getElem?_eq_some_iff.1 hr).1
    simp at this
    omega
  subst this
  simp at hi hr
  subst hi hr
  exact ⟨none, 0, rfl, RdP.nil _ _⟩
end Go.Proofs.YtojbjaklngdlcaaGreatDoor
