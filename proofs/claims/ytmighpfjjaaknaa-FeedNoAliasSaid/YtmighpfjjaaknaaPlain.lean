/-
  Plain laws of Take and Reply: no program in sight.
-/
import Derived.Test.YtmighpfjjaaknaaLiveW
namespace Go.Proofs.Ytmighpfjjaaknaa
set_option linter.unusedVariables false
set_option linter.unusedSimpArgs false

theorem RdP.ext {w : World} {A : Option Addr} {n c : Nat} {l : List Pl} (h : RdP w w.heap.size A n c l) (x : Ext w.heap.size w) : RdP x.val x.val.heap.size A n c l := (h.below x.ok).more x.ok.size
theorem RdM.ext {w : World} {A : Option Addr} {n c : Nat} {l : List Mv} (h : RdM w w.heap.size A n c l) (x : Ext w.heap.size w) : RdM x.val x.val.heap.size A n c l := (h.below x.ok).more x.ok.size
theorem RdV.ext {w : World} {A : Option Addr} {n c : Nat} {l : List Ver} (h : RdV w w.heap.size A n c l) (x : Ext w.heap.size w) : RdV x.val x.val.heap.size A n c l := (h.below x.ok).more x.ok.size
theorem okPs_appL2 {l : List Pl} {ms : List Mv} (h : okPs l) (h' : okMs ms) : okPs (appL l ms) ∧ (appL l ms).length ≤ l.length := by
  unfold appL
  cases hx : applyTo l.length l (-1) ms with
  | none => exact ⟨by simp [okPs], by simp⟩
  | some y => obtain ⟨a, b⟩ := applyTo_ok h h' hx; exact ⟨a, by simp [b]⟩
theorem takeC_ok {c : Cl} {m : Mg} (hc : okPs c.week) (hm : okPs m.week) (h' : okMs m.moves) : okPs (takeC c m).week := by
  unfold takeC t2L
  split
  · split
    · exact hm
    · split
      · dsimp only
        split
        · exact (okPs_appL2 hc h').1
        · simp [okPs]
      · simp [okPs, zeroC]
  · simp [okPs, zeroC]
theorem takeC_len {c : Cl} {m : Mg} {k : Nat} (hc : okPs c.week) (h' : okMs m.moves) (h1 : c.week.length ≤ k) (h2 : m.week.length ≤ k) : (takeC c m).week.length ≤ k := by
  unfold takeC t2L
  split
  · split
    · exact h2
    · split
      · dsimp only
        split
        · exact Nat.le_trans (okPs_appL2 hc h').2 h1
        · simp
      · simp [zeroC]
  · simp [zeroC]
theorem takeC_zero {c : Cl} {m : Mg} (h : takeE c m ≠ 0) : takeC c m = zeroC := by
  unfold takeE at h
  unfold takeC
  split at h
  · rename_i hk
    split at h
    · rw [if_neg (fun h' => by omega)]
    · split at h
      · exact absurd rfl h
      · rename_i h1
        split
        · first | rfl | rw [if_neg h1, if_neg h]
        · rfl
  · rename_i hk
    rw [if_neg (fun h' => hk ⟨h'.1, h'.2.1, h'.2.2.1⟩)]
theorem takeC_some {c : Cl} {m : Mg} (h : takeE c m = 0) : (m.kind = 1 ∨ m.kind = 2) ∧ (0 ≤ c.no ∧ c.no ≤ 1099511627776) ∧ (1 ≤ m.no ∧ m.no ≤ 1099511627776) ∧ c.no < m.no ∧ (takeC c m).no = m.no := by
  unfold takeE at h
  split at h
  · rename_i hk
    split at h
    · cases h
    · rename_i hno
      have hall : (m.kind = 1 ∨ m.kind = 2) ∧ (0 ≤ c.no ∧ c.no ≤ 1099511627776) ∧ (1 ≤ m.no ∧ m.no ≤ 1099511627776) ∧ c.no < m.no := ⟨hk.1, hk.2.1, hk.2.2, by omega⟩
      refine ⟨hall.1, hall.2.1, hall.2.2.1, hall.2.2.2, ?_⟩
      unfold takeC
      rw [if_pos hall]
      split
      · rfl
      · rename_i h1
        rw [if_neg h1] at h
        rw [if_pos h]
  · cases h
/-- A message that was taken is old. -/
theorem take_again {c : Cl} {m : Mg} (h : takeE c m = 0) : takeE (takeC c m) m = 341 ∧ takeC (takeC c m) m = zeroC := by
  obtain ⟨h1, h2, h3, h4, h5⟩ := takeC_some h
  have e : takeE (takeC c m) m = 341 := by
    unfold takeE
    rw [h5, if_pos ⟨h1, ⟨by omega, h3.2⟩, h3⟩, if_pos (Int.le_refl _)]
  exact ⟨e, takeC_zero (by rw [e]; decide)⟩

/-! Reply -/
theorem RdV.okWeeks {w : World} {B : Nat} {A : Option Addr} {n c : Nat} {vs : List Ver} (h : RdV w B A n c vs) : ∀ v ∈ vs, okPs v.week := by
  intro v hv
  obtain ⟨i, hi, rfl⟩ := List.getElem_of_mem hv
  obtain ⟨ss, hl, h1, h2⟩ := h
  obtain ⟨A', c', _, hp, _⟩ := h2 i vs[i] ss[i] (List.getElem?_eq_getElem hi) (List.getElem?_eq_getElem (by omega))
  exact hp.2
theorem checkB_at {vs : List Ver} (h : checkB vs = true) {k : Nat} (hk : k < vs.length) : okVer k vs[k] = true := (allIs_zip okVer vs).1 h k hk
theorem checkB_no {vs : List Ver} (h : checkB vs = true) {k : Nat} (hk : k < vs.length) : vs[k].no = (k : Int) + 1 := by
  have := checkB_at h hk
  unfold okVer at this
  simp only [Bool.and_eq_true, beq_iff_eq] at this
  exact this.1.1
theorem lastV_eq {vs : List Ver} (h : 0 < vs.length) : lastV vs = vs[vs.length - 1]'(by omega) := by
  unfold lastV
  rw [List.getD_eq_getElem?_getD, List.getElem?_eq_getElem (by omega)]
  rfl
theorem lastV_no {vs : List Ver} (h : checkB vs = true) (hn : 0 < vs.length) : (lastV vs).no = vs.length := by
  rw [lastV_eq hn, checkB_no h]
  omega
theorem replyE_ok {vs : List Ver} {no to : Int} (h : checkB vs = true) (h0 : 0 ≤ no) (h1 : no < vs.length) (h2 : no ≤ 1099511627776) (h3 : 0 ≤ to ∧ to ≤ 7) : replyE vs no to = 0 := by
  unfold replyE
  rw [if_pos ⟨h, ⟨h0, h2⟩, h3⟩, if_neg (by omega)]
/-- What a reply that is made holds. -/
def IsReply (vs : List Ver) (no to : Int) (m : Mg) : Prop :=
  m.to = to ∧ m.no = vs.length ∧ ((m.kind = 2 ∧ m.from_ = no ∧ 0 < no ∧ m.week = [] ∧ (vs.getD (no.toNat - 1) zeroV).week.length = (lastV vs).week.length ∧ m.moves = diffL (vs.getD (no.toNat - 1) zeroV).week (lastV vs).week) ∨
    (m.kind = 1 ∧ m.from_ = 0 ∧ m.week = (lastV vs).week ∧ m.moves = [] ∧ (0 < no → (vs.getD (no.toNat - 1) zeroV).week.length ≠ (lastV vs).week.length)))
theorem diffE_zero {a b : List Pl} : diffE a b = 0 ↔ a.length = b.length := by
  unfold diffE
  by_cases h : a.length = b.length
  · simp [h]
  · simp [h]
theorem replyM_is {vs : List Ver} {no to : Int} (h : checkB vs = true) (hn : 0 < vs.length) (he : replyE vs no to = 0) : IsReply vs no to (replyM vs no to) := by
  unfold replyM
  rw [if_pos he]
  by_cases hd : 0 < no ∧ diffE (vs.getD (no.toNat - 1) zeroV).week (lastV vs).week = 0
  · rw [if_pos hd]
    exact ⟨rfl, lastV_no h hn, .inl ⟨rfl, rfl, hd.1, rfl, diffE_zero.1 hd.2, rfl⟩⟩
  · rw [if_neg hd]
    exact ⟨rfl, lastV_no h hn, .inr ⟨rfl, rfl, rfl, rfl, fun h1 he => hd ⟨h1, diffE_zero.2 he⟩⟩⟩
theorem getD_mem {vs : List Ver} (k : Nat) : vs.getD k zeroV ∈ vs ∨ vs.getD k zeroV = zeroV := by
  rw [List.getD_eq_getElem?_getD]
  cases h : vs[k]? with
  | none => exact .inr rfl
  | some v => exact .inl (List.mem_of_getElem? h)
theorem getD_week {P : List Pl → Prop} {vs : List Ver} (h : ∀ v ∈ vs, P v.week) (h0 : P []) (k : Nat) : P (vs.getD k zeroV).week := by
  rcases getD_mem (vs := vs) k with h1 | h1
  · exact h _ h1
  · rw [h1]; exact h0
theorem okMs_diffL {a b : List Pl} (hb : okPs b) (hl : b.length ≤ 1099511627776) : okMs (diffL a b) := by
  unfold diffL
  split
  · exact okMs_diffTo hb _ hl
  · simp [okMs]
theorem replyM_ok {vs : List Ver} {no to : Int} (h : ∀ v ∈ vs, okPs v.week) (hl : ∀ v ∈ vs, v.week.length ≤ 70) : okPs (replyM vs no to).week ∧ okMs (replyM vs no to).moves ∧ (replyM vs no to).week.length ≤ 70 := by
  have hb : okPs (lastV vs).week := getD_week (P := okPs) h (by simp [okPs]) _
  have hbl : (lastV vs).week.length ≤ 70 := getD_week (P := fun l => l.length ≤ 70) hl (by simp) _
  unfold replyM
  split
  · split
    · exact ⟨by simp [okPs], okMs_diffL hb (by omega), by simp⟩
    · exact ⟨hb, by simp [okMs], hbl⟩
  · exact ⟨by simp [okPs, zeroM], by simp [okMs, zeroM], by simp [zeroM]⟩

/-! Applying a difference yields the target. -/
def applySt (N : Nat) : List Pl → Int → List Mv → Option (List Pl × Int)
  | x, la, [] => some (x, la)
  | x, la, m :: r => if m.lesson ≤ la ∨ (N : Int) ≤ m.lesson then none else applySt N (x.set m.lesson.toNat m.to) m.lesson r
theorem applyTo_st (N : Nat) (ms : List Mv) : ∀ (x : List Pl) (la : Int), applyTo N x la ms = (applySt N x la ms).map (·.1) := by
  induction ms with
  | nil => intro x la; rfl
  | cons m r ih =>
    intro x la
    simp only [applyTo, applySt]
    split
    · rfl
    · exact ih _ _
theorem applySt_app (N : Nat) (ms rs : List Mv) : ∀ (x : List Pl) (la : Int), applySt N x la (ms ++ rs) = (applySt N x la ms).bind fun y => applySt N y.1 y.2 rs := by
  induction ms with
  | nil => intro x la; rfl
  | cons m r ih =>
    intro x la
    simp only [applySt, List.cons_append]
    split
    · rfl
    · exact ih _ _
theorem apply_diffTo (a b : List Pl) (N : Nat) (ha : a.length = N) (hb : b.length = N) (k : Nat) (hk : k ≤ N) : ∃ la : Int, la < k ∧ applySt N a (-1) (diffTo a b k) = some (b.take k ++ a.drop k, la) := by
  induction k with
  | zero => exact ⟨-1, by omega, by simp [diffTo, applySt]⟩
  | succ k ih =>
    obtain ⟨la, h1, h2⟩ := ih (by omega)
    have hka : k < a.length := by omega
    have hkb : k < b.length := by omega
    unfold diffTo
    rw [applySt_app, h2, Option.bind_some]
    have e1 : a.getD k (0, 0) = a[k] := by rw [List.getD_eq_getElem?_getD, List.getElem?_eq_getElem hka]; rfl
    have e2 : b.getD k (0, 0) = b[k] := by rw [List.getD_eq_getElem?_getD, List.getElem?_eq_getElem hkb]; rfl
    rw [e1, e2]
    have e3 : a.drop k = a[k] :: a.drop (k + 1) := List.drop_eq_getElem_cons hka
    have e4 : b.take (k + 1) = b.take k ++ [b[k]] := List.take_succ_eq_append_getElem hkb
    split
    · rename_i he
      refine ⟨la, by omega, ?_⟩
      simp only [applySt]
      rw [e3, he, e4, List.append_assoc]
      rfl
    · refine ⟨k, by omega, ?_⟩
      simp only [applySt]
      rw [if_neg (by omega)]
      rw [e3]
      have hl : (b.take k).length = k := by rw [List.length_take]; omega
      simp only [Int.toNat_natCast]
      rw [List.set_append_right _ _ (by omega), hl, Nat.sub_self, List.set_cons_zero, e4, List.append_assoc]
      rfl
theorem apply_diff {a b : List Pl} (h : a.length = b.length) : appL a (diffL a b) = b ∧ appE a (diffL a b) = 0 := by
  unfold appL appE diffL
  rw [if_pos h]
  obtain ⟨la, _, h2⟩ := apply_diffTo a b b.length h rfl b.length (Nat.le_refl _)
  rw [applyTo_st, h, h2]
  simp [h]
/-- The reply to version no (a version's number, or 0 for none), taken by a client that shows it, leads to the last version. -/
theorem take_reply {vs : List Ver} {no to : Int} {l : List Pl} {m : Mg} (hm : IsReply vs no to m) (h0 : 0 ≤ no) (h1 : no < vs.length) (hn : (vs.length : Int) ≤ 1099511627776) (hl : 0 < no → l = (vs.getD (no.toNat - 1) zeroV).week) :
    takeE ⟨no, l⟩ m = 0 ∧ takeC ⟨no, l⟩ m = ⟨vs.length, (lastV vs).week⟩ := by
  obtain ⟨e1, e2, hk⟩ := hm
  have hkind : m.kind = 1 ∨ m.kind = 2 := by rcases hk with hk | hk; exact .inr hk.1; exact .inl hk.1
  have hall : (m.kind = 1 ∨ m.kind = 2) ∧ (0 ≤ no ∧ no ≤ 1099511627776) ∧ (1 ≤ m.no ∧ m.no ≤ 1099511627776) ∧ no < m.no := ⟨hkind, ⟨h0, by omega⟩, ⟨by omega, by omega⟩, by omega⟩
  have ht : takeE ⟨no, l⟩ m = if m.kind = 1 then 0 else t2E ⟨no, l⟩ m.from_ m.moves := by
    unfold takeE
    rw [if_pos ⟨hall.1, hall.2.1, hall.2.2.1⟩, if_neg (by dsimp only; omega)]
  have hc : takeC ⟨no, l⟩ m = if m.kind = 1 then ⟨m.no, m.week⟩ else if t2E ⟨no, l⟩ m.from_ m.moves = 0 then ⟨m.no, t2L ⟨no, l⟩ m.from_ m.moves⟩ else zeroC := by
    unfold takeC
    rw [if_pos hall]
  rw [ht, hc]
  rcases hk with ⟨k1, k2, k3, k4, k5, k6⟩ | ⟨k1, k2, k3, k4, k5⟩
  · have hw := hl k3
    subst hw
    obtain ⟨p1, p2⟩ := apply_diff k5
    have q1 : t2E ⟨no, (vs.getD (no.toNat - 1) zeroV).week⟩ m.from_ m.moves = 0 := by unfold t2E; rw [if_pos k2, k6]; exact p2
    have q2 : t2L ⟨no, (vs.getD (no.toNat - 1) zeroV).week⟩ m.from_ m.moves = (lastV vs).week := by unfold t2L; rw [if_pos k2, k6]; exact p1
    rw [if_neg (by omega), if_neg (by omega), q1, q2, if_pos rfl, e2]
    exact ⟨rfl, rfl⟩
  · rw [if_pos k1, if_pos k1, e2, k3]
    exact ⟨rfl, rfl⟩
theorem replyE_old {vs : List Ver} {no to : Int} (h : checkB vs = true) (h0 : 0 ≤ no) (h1 : (vs.length : Int) ≤ no) (h2 : no ≤ 1099511627776) (h3 : 0 ≤ to ∧ to ≤ 7) : replyE vs no to = 341 := by
  unfold replyE
  rw [if_pos ⟨h, ⟨h0, h2⟩, h3⟩, if_pos h1]
end Go.Proofs.Ytmighpfjjaaknaa
