/-
  What holds at the head of a round of FeedMonotone: the memory and the plain data.
-/
import Derived.Test.YtmighpfjjaaknaaPlain
import Derived.Test.YtmighpfjjaaknaaArgs
import Derived.Test.YtmighpfjjaaknaaRange
namespace Go.Proofs.Ytmighpfjjaaknaa
open Go.RowKit Go.ChangeShapes Go.WideShapes
set_option linter.unusedVariables false
set_option linter.unusedSimpArgs false

/-! The schedule. -/
structure Op where
  many : Nat
  now : Bool
  old : Nat
  which : Nat
  comes : Bool
def ocell (o : Op) : List Value := [.int .u8 o.many, .bool o.now, .int .u8 o.old, .int .u8 o.which, .bool o.comes]
theorem ocell_length (o : Op) : (ocell o).length = 5 := rfl
def okOp (o : Op) : Prop := o.many ≤ 255 ∧ o.old ≤ 255 ∧ o.which ≤ 255
def RdO (w : World) (B : Nat) (A : Option Addr) (n c : Nat) (l : List Op) : Prop := RdK 5 w B A n c (l.flatMap ocell) ∧ ∀ o ∈ l, okOp o
section
variable {w w' : World} {B B' : Nat} {A : Option Addr} {n c : Nat} {l : List Op}
theorem RdO.below (h : RdO w B A n c l) (hb : Below B w w') : RdO w' B A n c l := ⟨h.1.below hb, h.2⟩
theorem RdO.more (h : RdO w B A n c l) (hB : B ≤ B') : RdO w B' A n c l := ⟨h.1.more hB, h.2⟩
theorem RdO.len (h : RdO w B A n c l) : l.length = n := by have := h.1.len; rw [flat_length ocell_length] at this; omega
theorem RdO.le (h : RdO w B A n c l) : n ≤ c := h.1.le
theorem RdO.max (h : RdO w B A n c l) : c ≤ 9223372036854775807 := h.1.max
theorem RdO.at_ (h : RdO w B A n c l) {i : Nat} (hi : i < n) (hl : i < l.length) : ∃ ad, A = some ad ∧ ad.block < B ∧ w.cell? (ad.add (i * 5)) = some (.int .u8 l[i].many) ∧
    w.cell? ⟨(ad.add (i * 5)).block, (ad.add (i * 5)).off + 1, none⟩ = some (.bool l[i].now) ∧ w.cell? ⟨(ad.add (i * 5)).block, (ad.add (i * 5)).off + 2, none⟩ = some (.int .u8 l[i].old) ∧
    w.cell? ⟨(ad.add (i * 5)).block, (ad.add (i * 5)).off + 3, none⟩ = some (.int .u8 l[i].which) ∧ w.cell? ⟨(ad.add (i * 5)).block, (ad.add (i * 5)).off + 4, none⟩ = some (.bool l[i].comes) ∧ okOp l[i] := by
  obtain ⟨ad, e, hb, hc⟩ := h.1.2.2.2 (by omega)
  have h0 := hc (i * 5 + 0) _ (by rw [flat_get ocell_length l i 0 hl (by omega)]; rfl)
  have h1 := hc (i * 5 + 1) _ (by rw [flat_get ocell_length l i 1 hl (by omega)]; rfl)
  have h2 := hc (i * 5 + 2) _ (by rw [flat_get ocell_length l i 2 hl (by omega)]; rfl)
  have h3 := hc (i * 5 + 3) _ (by rw [flat_get ocell_length l i 3 hl (by omega)]; rfl)
  have h4 := hc (i * 5 + 4) _ (by rw [flat_get ocell_length l i 4 hl (by omega)]; rfl)
  exact ⟨ad, e, hb, h0, (add_sub ad (i * 5) 0) ▸ h1, (add_sub ad (i * 5) 1) ▸ h2, (add_sub ad (i * 5) 2) ▸ h3, (add_sub ad (i * 5) 3) ▸ h4, h.2 _ (List.getElem_mem hl)⟩
end
theorem tr_op {H : Type} {enc : TypeId × Value → H} {W : World} {cs : List Value} (h : Tr enc Try.prog W 48 cs) : ∃ o : Op, cs = ocell o ∧ okOp o := by
  obtain ⟨hl, hf⟩ := h.struct Try.underlying48
  have hl2 : cs.length = 5 := hl
  match cs, hl2 with
  | [a, b, c, d, x], _ =>
    obtain ⟨n0, h0⟩ := Tr.u8 (t := 5) Try.underlying5 (hf 0 _ rfl)
    obtain ⟨n1, h1⟩ := Tr.bool (t := 4) Try.underlying4 (hf 1 _ rfl)
    obtain ⟨n2, h2⟩ := Tr.u8 (t := 5) Try.underlying5 (hf 2 _ rfl)
    obtain ⟨n3, h3⟩ := Tr.u8 (t := 5) Try.underlying5 (hf 3 _ rfl)
    obtain ⟨n4, h4⟩ := Tr.bool (t := 4) Try.underlying4 (hf 4 _ rfl)
    have e0 : [a] = [Value.int .u8 (n0.toNat : Int)] := h0
    have e1 : [b] = [Value.bool n1] := h1
    have e2 : [c] = [Value.int .u8 (n2.toNat : Int)] := h2
    have e3 : [d] = [Value.int .u8 (n3.toNat : Int)] := h3
    have e4 : [x] = [Value.bool n4] := h4
    injection e0 with e0
    injection e1 with e1
    injection e2 with e2
    injection e3 with e3
    injection e4 with e4
    subst e0 e1 e2 e3 e4
    exact ⟨⟨n0.toNat, n1, n2.toNat, n3.toNat, n4⟩, rfl, by have := n0.toNat_lt; show n0.toNat ≤ 255; omega, by have := n2.toNat_lt; show n2.toNat ≤ 255; omega, by have := n3.toNat_lt; show n3.toNat ≤ 255; omega⟩
theorem arg_ops {H : Type} {enc : TypeId × Value → H} {W : World} {r : Reach} {b0 : Nat} {v : Value} {d : DataW H} {p : List MemPlace} (hv : Value.okWide Try.prog W r b0 45 v) (h : DataW.Trod enc Try.prog W 0 (fun _ => true) true 45 v d p) : ∃ A n c l, v = .slice A n c ∧ RdO W W.heap.size A n c l := by
  obtain ⟨a0, len0, cap0, rfl⟩ := okWide_slice Try.underlying45 hv
  obtain ⟨A, n, c, els, h1, h2, h3, h4, h5, h6⟩ := (Tr.of h).list 5 (fun cs (o : Op) => cs = ocell o ∧ okOp o) Try.underlying45 (by kernel_rfl) (by omega) (fun cs h => tr_op h)
  have hfl : ∀ els : List (List Value × Op), (∀ x ∈ els, x.1 = ocell x.2) → els.flatMap (·.1) = (els.map (·.2)).flatMap ocell := fun els he => by
    rw [List.flatMap_map]
    induction els with
    | nil => rfl
    | cons x r ih => rw [List.flatMap_cons, List.flatMap_cons, ih (fun y hy => he y (List.mem_cons_of_mem _ hy)), he x (List.mem_cons_self ..)]
  rw [hfl els (fun x hx => (h5 x hx).2.1)] at h6
  have e : [Value.slice a0 len0 cap0] = [.slice A n c] := h1
  injection e with e
  refine ⟨A, n, c, els.map (·.2), e, ⟨?_, h3, h4, h6⟩, fun p hp => ?_⟩
  · rw [flat_length ocell_length, List.length_map, h2]
  · obtain ⟨x, hx, rfl⟩ := List.mem_map.1 hp
    exact (h5 x hx).2.2

/-! The plain data. -/
/-- The client shows one of the first t versions, or none. -/
def Shows (vs : List Ver) (t : Nat) (c : Cl) : Prop := (c.no = 0 ∧ c.week = []) ∨ (1 ≤ c.no ∧ c.no ≤ t ∧ c.week = (vs.getD (c.no.toNat - 1) zeroV).week)
/-- A reply that was sent when t' versions were there. -/
def Sent (vs : List Ver) (t : Nat) (m : Mg) : Prop := ∃ (t' : Nat) (no : Int), t' ≤ t ∧ t' ≤ vs.length ∧ 0 ≤ no ∧ no < t' ∧ IsReply (vs.take t') no 3 m
theorem Shows.more {vs : List Ver} {t t' : Nat} {c : Cl} (h : Shows vs t c) (ht : t ≤ t') : Shows vs t' c := by
  rcases h with h | ⟨h1, h2, h3⟩
  · exact .inl h
  · exact .inr ⟨h1, by omega, h3⟩
theorem Sent.more {vs : List Ver} {t t' : Nat} {m : Mg} (h : Sent vs t m) (ht : t ≤ t') : Sent vs t' m := by
  obtain ⟨a, b, h1, h2⟩ := h
  exact ⟨a, b, by omega, h2⟩
theorem checkB_take {vs : List Ver} (h : checkB vs = true) (t : Nat) : checkB (vs.take t) = true := by
  refine (allIs_zip okVer _).2 fun k hk => ?_
  rw [List.getElem_take]
  exact checkB_at h (by rw [List.length_take] at hk; omega)
theorem getD_take {vs : List Ver} {t k : Nat} (h : k < t) : (vs.take t).getD k zeroV = vs.getD k zeroV := by
  rw [List.getD_eq_getElem?_getD, List.getD_eq_getElem?_getD, List.getElem?_take, if_pos h]
theorem lastV_take {vs : List Ver} {t : Nat} (h : t ≤ vs.length) (h0 : 0 < t) : lastV (vs.take t) = vs.getD (t - 1) zeroV := by
  unfold lastV
  rw [List.length_take, Nat.min_eq_left h, getD_take (by omega)]
theorem reply_sent {vs : List Ver} {t : Nat} {no : Int} (hc : checkB vs = true) (ht : t ≤ vs.length) (h0 : 0 ≤ no) (h1 : no ≤ 1099511627776) :
    (replyE (vs.take t) no 3 = 0 ∧ Sent vs t (replyM (vs.take t) no 3)) ∨ replyE (vs.take t) no 3 = 341 := by
  have hl : (vs.take t).length = t := by rw [List.length_take]; omega
  rcases Int.lt_or_le no (t : Int) with h | h
  · have he := replyE_ok (vs := vs.take t) (no := no) (to := 3) (checkB_take hc t) h0 (by rw [hl]; exact h) h1 (by decide)
    exact .inl ⟨he, t, no, Nat.le_refl _, ht, h0, h, replyM_is (checkB_take hc t) (by rw [hl]; omega) he⟩
  · exact .inr (replyE_old (checkB_take hc t) h0 (by rw [hl]; exact h) h1 (by decide))
theorem take_sent {vs : List Ver} {t : Nat} {c : Cl} {m : Mg} (hc : Shows vs t c) (hm : Sent vs t m) (ht : t ≤ vs.length) (hn : vs.length ≤ 1000000) :
    (takeE c m = 0 ∧ c.no < (takeC c m).no ∧ Shows vs t (takeC c m)) ∨ takeE c m = 341 ∨ takeE c m = 350 := by
  obtain ⟨t', no, h1, h2, h3, h4, hr⟩ := hm
  have hl : (vs.take t').length = t' := by rw [List.length_take]; omega
  have hc0 : 0 ≤ c.no ∧ c.no ≤ t := by rcases hc with h | h <;> omega
  obtain ⟨e1, e2, hk⟩ := hr
  rw [hl] at e2
  have hkind : m.kind = 1 ∨ m.kind = 2 := by rcases hk with hk | hk; exact .inr hk.1; exact .inl hk.1
  have hE : takeE c m = if m.no ≤ c.no then 341 else if m.kind = 1 then 0 else t2E c m.from_ m.moves := by
    unfold takeE
    rw [if_pos ⟨hkind, ⟨hc0.1, by omega⟩, ⟨by omega, by omega⟩⟩]
  rcases Int.lt_or_le c.no m.no with hlt | hle
  · have hfin : (t2E c m.from_ m.moves = 0 → m.kind = 2 → t2L c m.from_ m.moves = (vs.getD (t' - 1) zeroV).week) → (m.kind = 1 → m.week = (vs.getD (t' - 1) zeroV).week) → takeE c m = 0 → (takeE c m = 0 ∧ c.no < (takeC c m).no ∧ Shows vs t (takeC c m)) ∨ takeE c m = 341 ∨ takeE c m = 350 := by
      intro g1 g2 he
      have hC : takeC c m = ⟨m.no, (vs.getD (t' - 1) zeroV).week⟩ := by
        unfold takeC
        rw [if_pos ⟨hkind, ⟨hc0.1, by omega⟩, ⟨by omega, by omega⟩, hlt⟩]
        rcases hkind with k | k
        · rw [if_pos k, g2 k]
        · rw [if_neg (by omega)]
          rw [hE, if_neg (by omega), if_neg (by omega)] at he
          rw [if_pos he, g1 he k]
      refine .inl ⟨he, ?_, ?_⟩
      · rw [hC]; exact hlt
      · rw [hC]
        refine .inr ⟨by show 1 ≤ m.no; omega, by show m.no ≤ _; omega, ?_⟩
        show _ = (vs.getD (m.no.toNat - 1) zeroV).week
        rw [e2]
        simp
    rcases hk with ⟨k1, k2, k3, k4, k5, k6⟩ | ⟨k1, k2, k3, k4, k5⟩
    · by_cases hf : m.from_ = c.no
      · have hsw : c.week = (vs.getD (no.toNat - 1) zeroV).week := by
          rcases hc with h | ⟨_, _, h⟩
          · omega
          · rw [h, ← hf, k2]
        rw [getD_take (by omega), lastV_take h2 (by omega)] at k5 k6
        obtain ⟨p1, p2⟩ := apply_diff k5
        have q1 : t2E c m.from_ m.moves = 0 := by unfold t2E; rw [if_pos hf, k6, hsw]; exact p2
        have q2 : t2L c m.from_ m.moves = (vs.getD (t' - 1) zeroV).week := by unfold t2L; rw [if_pos hf, k6, hsw]; exact p1
        refine hfin (fun _ _ => q2) (fun h => by omega) ?_
        rw [hE, if_neg (by omega), if_neg (by omega), q1]
      · refine .inr (.inr ?_)
        rw [hE, if_neg (by omega), if_neg (by omega)]
        unfold t2E
        rw [if_neg hf]
    · rw [lastV_take h2 (by omega)] at k3
      refine hfin (fun _ h => by omega) (fun _ => k3) ?_
      rw [hE, if_neg (by omega), if_pos k1]
  · refine .inr (.inl ?_)
    rw [hE, if_pos hle]

theorem shows_take {vs : List Ver} {t : Nat} {no : Int} {l : List Pl} (h : Shows vs t ⟨no, l⟩) : (no = 0 ∧ l = []) ∨ (1 ≤ no ∧ no ≤ (t : Int) ∧ l = ((vs.take t).getD (no.toNat - 1) zeroV).week) := by
  rcases h with h | ⟨h1, h2, h3⟩
  · exact .inl h
  · dsimp only at h1 h2 h3
    exact .inr ⟨h1, h2, by rw [getD_take (by omega)]; exact h3⟩
theorem shows_len {vs : List Ver} {t : Nat} {c : Cl} (h : Shows vs t c) (hv : ∀ v ∈ vs, v.week.length ≤ 70) : c.week.length ≤ 70 := by
  rcases h with h | ⟨h1, h2, h3⟩
  · rw [h.2]; simp
  · rw [h3]; exact getD_week (P := fun l => l.length ≤ 70) hv (by simp) _
/-! The memory. -/
def gcell (x : Mg × Value × Value) : List Value := [.int .i64 x.1.kind, .int .i64 x.1.to, .int .i64 x.1.from_, .int .i64 x.1.no, x.2.1, x.2.2]
theorem gcell_length (x : Mg × Value × Value) : (gcell x).length = 6 := rfl
theorem elG : ElK Try.prog 6 46 32 (.agg #[.int .i64 0, .int .i64 0, .int .i64 0, .int .i64 0, .slice none 0 0, .slice none 0 0]) 80 := ⟨Try.underlying46, by kernel_rfl, rfl, by omega⟩
structure MonMem (B bC : Nat) (wr : World) (sv : Value) (msgs : List (Mg × Value × Value)) (cl : Cl) (cs : Value) : Prop where
  box : wr.heap[bC]? = some (.cells #[.int .i64 cl.no, cs] 27)
  week : wr.ownsRow B 60 2 cs cl.week.length (pv cl.week)
  row : wr.ownsRow B 32 6 sv msgs.length (msgs.flatMap gcell)
  each : ∀ x ∈ msgs, wr.ownsRow B 60 2 x.2.1 x.1.week.length (pv x.1.week) ∧ wr.ownsRow B 64 3 x.2.2 x.1.moves.length (mv x.1.moves)
  okc : okPs cl.week
  okm : ∀ x ∈ msgs, okPs x.1.week ∧ okMs x.1.moves ∧ x.1.week.length ≤ 70
theorem MonMem.below {B bC : Nat} {wr w' : World} {sv : Value} {msgs : List (Mg × Value × Value)} {cl : Cl} {cs : Value} (h : MonMem B bC wr sv msgs cl cs) (hb : Below wr.heap.size wr w') : MonMem B bC w' sv msgs cl cs :=
  ⟨blk_below h.box hb, own_below h.week hb, own_below h.row hb, fun x hx => ⟨own_below (h.each x hx).1 hb, own_below (h.each x hx).2 hb⟩, h.okc, h.okm⟩
theorem own_blk_ne {w : World} {B e size n bC : Nat} {v : Value} {xs : List Value} {cs : Array Value} {t : TypeId} {fr : Nat × Nat} (h : w.ownsRow B e size v n xs) (hb : w.heap[bC]? = some (.cells cs t fr)) (hne : e ≠ t) : ∀ g, v.ownBlock = some g → bC ≠ g := by
  intro g hg e'
  subst e'
  rcases h.2 with ⟨rfl, _⟩ | ⟨g', cap, cur, rfl, _, hg', _⟩
  · simp [Value.ownBlock] at hg
  · obtain rfl : g' = bC := by simpa [Value.ownBlock] using hg
    rw [hg'] at hb
    simp at hb
    exact hne hb.2.1
theorem MonMem.put {B bC : Nat} {wr : World} {sv : Value} {msgs : List (Mg × Value × Value)} {cl cl' : Cl} {cs cs' : Value} (h : MonMem B bC wr sv msgs cl cs) (hw : wr.ownsRow B 60 2 cs' cl'.week.length (pv cl'.week)) (hok : okPs cl'.week) :
    MonMem B bC ((wr.setCell ⟨bC, 0, none⟩ (.int .i64 cl'.no)).setCell ⟨bC, 1, none⟩ cs') sv msgs cl' cs' := by
  have key : ∀ {e size n : Nat} {v : Value} {xs : List Value}, wr.ownsRow B e size v n xs → e ≠ 27 → ((wr.setCell ⟨bC, 0, none⟩ (.int .i64 cl'.no)).setCell ⟨bC, 1, none⟩ cs').ownsRow B e size v n xs := fun ho hne =>
    own_set (own_set ho (own_blk_ne ho h.box hne)) (own_blk_ne ho h.box hne)
  exact ⟨heap_setCell_same _ _ 1 _ _ _ (heap_setCell_same wr _ 0 _ _ _ h.box), key hw (by decide), key h.row (by decide), fun x hx => ⟨key (h.each x hx).1 (by decide), key (h.each x hx).2 (by decide)⟩, hok, h.okm⟩
theorem own_grown' {w w' : World} {B e size n : Nat} {v : Value} {xs : List Value} {r : Option Nat} (h : w.ownsRow B e size v n xs) (hg : w.grownBy w' r) (hne : ∀ g, v.ownBlock = some g → some g ≠ r) : w'.ownsRow B e size v n xs := by
  refine ⟨h.1, ?_⟩
  rcases h.2 with hn | ⟨g, cap, cur, rfl, hbg, hgg, rest⟩
  · exact .inl hn
  · exact .inr ⟨g, cap, cur, rfl, hbg, (hg.block g (Array.getElem?_eq_some_iff.1 hgg).1 (hne g rfl)).trans hgg, rest⟩
theorem MonMem.app {B bC : Nat} {wr w' : World} {sv sv' : Value} {msgs : List (Mg × Value × Value)} {cl : Cl} {cs : Value} {x : Mg × Value × Value} (h : MonMem B bC wr sv msgs cl cs) (hg : wr.grownBy w' sv.ownBlock)
    (hrow : w'.ownsRow B 32 6 sv' (msgs.length + 1) (msgs.flatMap gcell ++ gcell x)) (h1 : wr.ownsRow B 60 2 x.2.1 x.1.week.length (pv x.1.week)) (h2 : wr.ownsRow B 64 3 x.2.2 x.1.moves.length (mv x.1.moves))
    (hok : okPs x.1.week ∧ okMs x.1.moves ∧ x.1.week.length ≤ 70) : MonMem B bC w' sv' (msgs ++ [x]) cl cs := by
  have key : ∀ {e size n : Nat} {v : Value} {xs : List Value}, wr.ownsRow B e size v n xs → e ≠ 32 → w'.ownsRow B e size v n xs := fun {e size n v xs} ho hne =>
    own_grown' ho hg (fun g hg' hgr => by
      rcases own_apart ho h.row hne with h' | h'
      · rw [h'] at hg'; cases hg'
      · exact h' (hg'.trans hgr))
  have hbox : w'.heap[bC]? = some (.cells #[.int .i64 cl.no, cs] 27) :=
    (hg.block bC (Array.getElem?_eq_some_iff.1 h.box).1 (fun e => own_blk_ne h.row h.box (by decide) bC e.symm rfl)).trans h.box
  refine ⟨hbox, key h.week (by decide), ?_, fun y hy => ?_, h.okc, fun y hy => ?_⟩
  · rw [List.length_append, List.flatMap_append]
    simpa using hrow
  · rcases List.mem_append.1 hy with hy | hy
    · exact ⟨key (h.each y hy).1 (by decide), key (h.each y hy).2 (by decide)⟩
    · rw [List.mem_singleton] at hy
      subst hy
      exact ⟨key h1 (by decide), key h2 (by decide)⟩
  · rcases List.mem_append.1 hy with hy | hy
    · exact h.okm y hy
    · rw [List.mem_singleton] at hy
      subst hy
      exact hok
theorem cell_below {w w' : World} {p : Addr} {v : Value} (h : w.cell? p = some v) (hb : Below w.heap.size w w') : w'.cell? p = some v := (hb.cell (World.block_lt_of_cell? w p h)).trans h
theorem MonMem.at_ {B bC : Nat} {wr : World} {As : Option Addr} {ms ks : Nat} {msgs : List (Mg × Value × Value)} {cl : Cl} {cs : Value} (h : MonMem B bC wr (.slice As ms ks) msgs cl cs) (hms : ms = msgs.length) {q : Nat} (hq : q < ms) (hql : q < msgs.length) :
    ∃ ad, As = some ad ∧ wr.cell? (ad.add (q * 6)) = some (.int .i64 msgs[q].1.kind) ∧ wr.cell? ⟨(ad.add (q * 6)).block, (ad.add (q * 6)).off + 1, none⟩ = some (.int .i64 msgs[q].1.to) ∧
      wr.cell? ⟨(ad.add (q * 6)).block, (ad.add (q * 6)).off + 2, none⟩ = some (.int .i64 msgs[q].1.from_) ∧ wr.cell? ⟨(ad.add (q * 6)).block, (ad.add (q * 6)).off + 3, none⟩ = some (.int .i64 msgs[q].1.no) ∧
      wr.cell? ⟨(ad.add (q * 6)).block, (ad.add (q * 6)).off + 4, none⟩ = some msgs[q].2.1 ∧ wr.cell? ⟨(ad.add (q * 6)).block, (ad.add (q * 6)).off + 5, none⟩ = some msgs[q].2.2 := by
  obtain ⟨A, c, e, hr⟩ := own_rdK h.row
  injection e with e1 e2 e3
  subst e1 e2 e3
  obtain ⟨ad, e, hb, hc⟩ := hr.2.2.2 (by omega)
  have h0 := hc (q * 6 + 0) _ (by rw [flat_get gcell_length msgs q 0 hql (by omega)]; rfl)
  have h1 := hc (q * 6 + 1) _ (by rw [flat_get gcell_length msgs q 1 hql (by omega)]; rfl)
  have h2 := hc (q * 6 + 2) _ (by rw [flat_get gcell_length msgs q 2 hql (by omega)]; rfl)
  have h3 := hc (q * 6 + 3) _ (by rw [flat_get gcell_length msgs q 3 hql (by omega)]; rfl)
  have h4 := hc (q * 6 + 4) _ (by rw [flat_get gcell_length msgs q 4 hql (by omega)]; rfl)
  have h5 := hc (q * 6 + 5) _ (by rw [flat_get gcell_length msgs q 5 hql (by omega)]; rfl)
  exact ⟨ad, e, h0, (add_sub ad (q * 6) 0) ▸ h1, (add_sub ad (q * 6) 1) ▸ h2, (add_sub ad (q * 6) 2) ▸ h3, (add_sub ad (q * 6) 3) ▸ h4, (add_sub ad (q * 6) 4) ▸ h5⟩
end Go.Proofs.Ytmighpfjjaaknaa
