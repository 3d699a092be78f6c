/-
  The walks of places, within, Check's closures and ContainsFunc.
-/
import Derived.Test.YtojbjaklngdlcaaGreatDoorSchR
import Derived.Test.YtojbjaklngdlcaaGreatDoorNamedW
namespace Go.Proofs.YtojbjaklngdlcaaGreatDoor
open Go.RowKit
set_option linter.unusedVariables false
set_option linter.unusedSimpArgs false

set_option maxRecDepth 100000 in
set_option maxHeartbeats 2000000 in
theorem swithin_any (n m : Int) (w : World) : Calls Tryz.prog 44 #[.int .i64 n, .int .i64 m] w (TellsQ (Sc.within n m) w) := by
  unfold Sc.within
  by_cases h1 : 0 ≤ n
  · have d1 : decide (0 ≤ n) = true := by simp; omega
    by_cases h2 : n ≤ m
    · have d2 : decide (n ≤ m) = true := by simp; omega
      go_enter Tryz.func44, Tryz.ntmps44
      go_wp2
      go_ret
      exact ⟨_, rfl, ⟨fun _ => ⟨h1, h2⟩, fun _ => rfl⟩, rfl⟩
    · have d2 : decide (n ≤ m) = false := by simp; omega
      go_enter Tryz.func44, Tryz.ntmps44
      go_wp2
      go_ret
      exact ⟨_, rfl, ⟨(fun h => by cases h), fun h => by omega⟩, rfl⟩
  · have d1 : decide (0 ≤ n) = false := by simp; omega
    go_enter Tryz.func44, Tryz.ntmps44
    go_wp2
    go_ret
    exact ⟨_, rfl, ⟨(fun h => by cases h), fun h => by omega⟩, rfl⟩

set_option maxRecDepth 100000 in
set_option maxHeartbeats 4000000 in
theorem splaces_any (A : Option Addr) (n c : Nat) (l : List Int) (k : Nat) (w : World) (h : RdI w w.heap.size A n c l) :
    Calls Tryz.prog 46 #[.slice A n c, .int .i64 (k : Int)] w (TellsQ (Sc.incr l k) w) := by
  have h1 := h.max
  have h2 := h.le
  have hl := Lib.hid h.len
  go_enter Tryz.func46, Tryz.ntmps46
  go_wp2_with fail
  go_loop [5, 10] (fun p i => ∃ j : Nat, j ≤ n ∧ i = .int .i64 j ∧ p = .int .i64 ((l.take j).getLast?.getD (-1)) ∧ Sc.incr (l.take j) k) (fun _ i => n - (intOf i).toNat)
  case atStart => exact ⟨0, by omega, rfl, by simp, by simpa using Sc.incr_nil k⟩
  case round =>
    obtain ⟨j, hj, rfl, rfl, hinc⟩ := hrel
    by_cases hjn : j < n
    · have hjl : j < l.length := by rw [hl.out]; exact hjn
      obtain ⟨ad, rfl, _, x0, ok1, ok2⟩ := h.at_ hjn hjl
      have d1 : decide ((j : Int) < (n : Int)) = true := by simp; omega
      have HS := Lib.hid (Sc.incr_stop (n := k) hjl)
      have HG := Lib.hid (Sc.incr_go hjl hinc)
      have HLs := Lib.hid (Sc.last_step hjl)
      generalize (l.take j).getLast?.getD (-1) = la at *
      generalize hx : l[j] = x at *
      clear hx hinc
      by_cases p1 : x ≤ la
      · have d2 : decide (x ≤ la) = true := by simp; omega
        go_wp2_with fail
        go_ret
        exact ⟨_, rfl, ⟨(fun hh => by cases hh), fun hh => absurd hh (HS.out (by omega))⟩, rfl⟩
      · have d2 : decide (x ≤ la) = false := by simp; omega
        by_cases p2 : (k : Int) ≤ x
        · have d3 : decide ((k : Int) ≤ x) = true := by simp; omega
          go_wp2_with fail
          go_ret
          exact ⟨_, rfl, ⟨(fun hh => by cases hh), fun hh => absurd hh (HS.out (by omega))⟩, rfl⟩
        · have d3 : decide ((k : Int) ≤ x) = false := by simp; omega
          go_wp2_with fail
          go_round
          case rel => exact ⟨j + 1, by omega, by go_num, by rw [HLs.out], HG.out (by omega)⟩
          case measure => simp [intOf]; omega
    · obtain rfl : j = n := by omega
      have d1 : decide ((j : Int) < (j : Int)) = false := by simp
      have HE : Hid (Sc.incr l k) := by rw [List.take_of_length_le (by rw [hl.out]; omega)] at hinc; exact hinc
      clear hinc
      go_wp2_with fail
      go_ret
      exact ⟨_, rfl, ⟨fun _ => HE.out, fun _ => rfl⟩, rfl⟩

/-- A function value that tells of an element whether p holds. -/
def PredS {α : Type} (R : World → Nat → α → List Value → Prop) (g : Nat) (lb : Array Value) (p : α → Prop) (w : World) : Prop :=
  ∀ (W : World) (x : α) (r : List Value), Below w.heap.size w W → R W W.heap.size x r → Calls Tryz.prog g (#[.agg r.toArray] ++ lb) W (Tells (p x) W)

set_option maxRecDepth 100000 in
set_option maxHeartbeats 4000000 in
theorem group_pred (w : World) : PredS Sc.RGro 48 #[] (fun x => ¬ Sc.within x.size 1000) w := by
  rintro W ⟨nm, sz⟩ r hW ⟨rfl, _, _⟩
  have hb := (Below.refl W.heap.size W).alloc (Nat.le_refl _) (.cells #[.string (strOf nm), .int .i64 sz] 98)
  go_enter Tryz.func48, Tryz.ntmps48
  go_wp2_with fail
  refine (swithin_any sz 1000 _).mono ?_
  rintro e w2 ⟨b, rfl, hiff, rfl⟩
  go_wp2
  go_ret
  exact ⟨_, rfl, by cases b <;> simp_all, hb⟩

set_option maxRecDepth 100000 in
set_option maxHeartbeats 4000000 in
theorem person_pred (bS k : Nat) (w : World) (b1 : w.heap[bS]? = some (.cells #[.int .i64 (k : Int)] 3)) : PredS Sc.RPer 47 #[.pointer (some ⟨bS, 0, none⟩)] (fun x => ¬ Sc.incr x.away k) w := by
  rintro W ⟨nm, aw⟩ r hW ⟨A, c, rfl, hi, _⟩
  dsimp only at hi ⊢
  have m1 := hi.max
  have m2 := hi.le
  obtain ⟨V, hV⟩ : ∃ V, V = W.alloc (.cells #[.string (strOf nm), .slice A aw.length c] 95) := ⟨_, rfl⟩
  have hb := below_new hV
  have HV := Lib.hid hV.symm
  clear hV
  have c0 : V.cell? ⟨bS, 0, none⟩ = some (.int .i64 (k : Int)) := (hb.cell (p := ⟨bS, 0, none⟩) (Nat.lt_of_lt_of_le (blk_lt b1) hW.size)).trans ((hW.cell (p := ⟨bS, 0, none⟩) (blk_lt b1)).trans (blk_cell b1))
  have hi := (hi.below hb).more hb.size
  generalize aw.length = n at *
  rw [← HV.out] at c0
  go_enter Tryz.func47, Tryz.ntmps47
  go_wp2_with fail
  rw [HV.out]
  refine (splaces_any A n c aw k V hi).mono ?_
  rintro e w2 ⟨b, rfl, hiff, rfl⟩
  go_wp2
  go_ret
  exact ⟨_, rfl, by cases b <;> simp_all, hb⟩

set_option maxRecDepth 100000 in
set_option maxHeartbeats 4000000 in
theorem lesson_pred (bP p bG q : Nat) (w : World) (b1 : w.heap[bP]? = some (.cells #[.int .i64 (p : Int)] 3)) (b2 : w.heap[bG]? = some (.cells #[.int .i64 (q : Int)] 3)) :
    PredS Sc.RLes 49 #[.pointer (some ⟨bP, 0, none⟩), .pointer (some ⟨bG, 0, none⟩)] (fun x => ¬ Sc.lessonOk p q x) w := by
  rintro W ⟨nm, wh, gr⟩ r hW ⟨A, c, A', c', rfl, hi, hi', _⟩
  unfold Sc.lessonOk
  dsimp only at hi hi' ⊢
  have m1 := hi.max
  have m2 := hi.le
  have m3 := hi'.max
  have m4 := hi'.le
  obtain ⟨V, hV⟩ : ∃ V, V = W.alloc (.cells #[.string (strOf nm), .slice A wh.length c, .slice A' gr.length c'] 84) := ⟨_, rfl⟩
  have bV := blk_new hV
  have hb := below_new hV
  have HV := Lib.hid hV.symm
  clear hV
  have c1 : V.cell? ⟨bP, 0, none⟩ = some (.int .i64 (p : Int)) := (hb.cell (p := ⟨bP, 0, none⟩) (Nat.lt_of_lt_of_le (blk_lt b1) hW.size)).trans ((hW.cell (p := ⟨bP, 0, none⟩) (blk_lt b1)).trans (blk_cell b1))
  have c2 : V.cell? ⟨bG, 0, none⟩ = some (.int .i64 (q : Int)) := (hb.cell (p := ⟨bG, 0, none⟩) (Nat.lt_of_lt_of_le (blk_lt b2) hW.size)).trans ((hW.cell (p := ⟨bG, 0, none⟩) (blk_lt b2)).trans (blk_cell b2))
  have hi := (hi.below hb).more hb.size
  have hi' := (hi'.below hb).more hb.size
  generalize wh.length = n at *
  generalize gr.length = m at *
  have d0 := blk_cell (j := 0) bV
  have d1 := blk_cell (j := 1) bV
  have d2 := blk_cell (j := 2) bV
  simp only [List.getElem?_toArray, List.getElem?_cons_zero, List.getElem?_cons_succ] at d0 d1 d2
  have c1' := c1
  rw [← HV.out] at c1'
  go_enter Tryz.func49, Tryz.ntmps49
  go_wp2_with fail
  rw [HV.out]
  clear c1'
  refine (splaces_any A n c wh p V hi).mono ?_
  rintro e w2 ⟨b, rfl, hiff, rfl⟩
  cases b with
  | false =>
    have h1 : ¬ Sc.incr wh p := fun h => by have := hiff.2 h; cases this
    clear hiff
    go_wp2
    go_ret
    exact ⟨_, rfl, ⟨fun _ h => h1 h.1, fun _ => rfl⟩, hb⟩
  | true =>
    have h1 := hiff.1 rfl
    clear hiff
    go_wp2_with fail
    refine (splaces_any A' m c' gr q V hi').mono ?_
    rintro e w2 ⟨b, rfl, hiff, rfl⟩
    go_wp2
    go_ret
    exact ⟨_, rfl, by cases b <;> simp_all, hb⟩

set_option maxRecDepth 100000 in
set_option maxHeartbeats 4000000 in
theorem room_pred (bS k : Nat) (w : World) (b1 : w.heap[bS]? = some (.cells #[.int .i64 (k : Int)] 3)) : PredS Sc.RRoo 45 #[.pointer (some ⟨bS, 0, none⟩)] (fun x => ¬ Sc.roomOk k x) w := by
  rintro W ⟨nm, ho, se, sh⟩ r hW ⟨A, c, rfl, hi, _⟩
  unfold Sc.roomOk
  dsimp only at hi ⊢
  have m1 := hi.max
  have m2 := hi.le
  obtain ⟨V, hV⟩ : ∃ V, V = W.alloc (.cells #[.string (strOf nm), .int .i64 ho, .int .i64 se, .slice A sh.length c] 82) := ⟨_, rfl⟩
  have bV := blk_new hV
  have hb := below_new hV
  have HV := Lib.hid hV.symm
  clear hV
  have c1 : V.cell? ⟨bS, 0, none⟩ = some (.int .i64 (k : Int)) := (hb.cell (p := ⟨bS, 0, none⟩) (Nat.lt_of_lt_of_le (blk_lt b1) hW.size)).trans ((hW.cell (p := ⟨bS, 0, none⟩) (blk_lt b1)).trans (blk_cell b1))
  have hi := (hi.below hb).more hb.size
  generalize sh.length = n at *
  have d0 := blk_cell (j := 0) bV
  have d1 := blk_cell (j := 1) bV
  have d2 := blk_cell (j := 2) bV
  have d3 := blk_cell (j := 3) bV
  simp only [List.getElem?_toArray, List.getElem?_cons_zero, List.getElem?_cons_succ] at d0 d1 d2 d3
  go_enter Tryz.func45, Tryz.ntmps45
  go_wp2_with fail
  rw [HV.out]
  refine (swithin_any ho 7 V).mono ?_
  rintro e w2 ⟨b, rfl, hiff, rfl⟩
  cases b with
  | false =>
    have h1 : ¬ Sc.within ho 7 := fun h => by have := hiff.2 h; cases this
    clear hiff
    go_wp2
    go_ret
    exact ⟨_, rfl, ⟨fun _ h => h1 h.1, fun _ => rfl⟩, hb⟩
  | true =>
    have h1 := hiff.1 rfl
    clear hiff
    go_wp2_with fail
    refine (swithin_any se 1000 V).mono ?_
    rintro e w2 ⟨b, rfl, hiff, rfl⟩
    cases b with
    | false =>
      have h2 : ¬ Sc.within se 1000 := fun h => by have := hiff.2 h; cases this
      clear hiff
      go_wp2
      go_ret
      exact ⟨_, rfl, ⟨fun _ h => h2 h.2.1, fun _ => rfl⟩, hb⟩
    | true =>
      have h2 := hiff.1 rfl
      clear hiff
      go_wp2_with fail
      refine (splaces_any A n c sh k V hi).mono ?_
      rintro e w2 ⟨b, rfl, hiff, rfl⟩
      go_wp2
      go_ret
      exact ⟨_, rfl, by cases b <;> simp_all, hb⟩


set_option maxRecDepth 100000 in
set_option maxHeartbeats 4000000 in
theorem ifR_any (A : Option Addr) (n c : Nat) (l : List Sc.Roo) (gf : Nat) (lb : Array Value) (eg : ∀ args w, (callFunc gf args).run Tryz.prog w = .ok (.enter gf args) w) (p : Sc.Roo → Prop) (w : World) (h : RdS 4 Sc.RRoo w w.heap.size A n c l) (hp : PredS Sc.RRoo gf lb p w) :
    Calls Tryz.prog 77 #[.slice A n c, .func (.func gf) #[] lb] w fun e w' => ∃ i : Int, e = .returned (.int .i64 i) ∧ (0 ≤ i ↔ ∃ x ∈ l, p x) ∧ Below w.heap.size w w' := by
  have h1 := h.max
  have h2 := h.le
  have hl := Lib.hid (h.len (by omega))
  go_enter Tryz.func77, Tryz.ntmps77
  go_wp2_with fail
  go_loopw [8] (fun i wr => ∃ j : Nat, j ≤ n ∧ i = .int .i64 j ∧ (∀ x ∈ l.take j, ¬ p x) ∧ Below w.heap.size w wr) (fun i _ => n - (intOf i).toNat)
  case atStart => exact ⟨0, by omega, rfl, by simp, Below.refl _ _⟩
  case round =>
    obtain ⟨j, hj, rfl, hall, hbt⟩ := hrel
    have HA := Lib.hid hall
    clear hall
    by_cases hjn : j < n
    · have hjl : j < l.length := by rw [hl.out]; exact hjn
      obtain ⟨ad, r, rfl, _, hr, hR, hc⟩ := RdS.at_ (by omega) ((h.below Sc.lasts_Roo hbt).more Sc.lasts_Roo hbt.size) hjn hjl
      have d1 : decide ((j : Int) < (n : Int)) = true := by simp; omega
      have d2 : decide (j < n) = true := by simp; omega
      obtain ⟨u0, u1, u2, u3, rfl⟩ : ∃ u0 u1 u2 u3, r = [u0, u1, u2, u3] := by
        match r, hr with
        | [u0, u1, u2, u3], _ => exact ⟨u0, u1, u2, u3, rfl⟩
      have x0 := hc 0 u0 rfl
      have x1 := hc 1 u1 rfl
      have x2 := hc 2 u2 rfl
      have x3 := hc 3 u3 rfl
      rw [Nat.add_zero] at x0
      replace x1 := cell_sub x1
      replace x2 := cell_sub x2
      replace x3 := cell_sub x3
      clear hc hr
      have HC := Lib.hid (hp wr l[j] _ hbt hR)
      have HY : Hid (p l[j] → ∃ x ∈ l, p x) := fun e => ⟨_, List.getElem_mem hjl, e⟩
      have HN : Hid (¬ p l[j] → ∀ x ∈ l.take (j + 1), ¬ p x) := fun e x hx => by
        rw [List.take_succ_eq_append_getElem hjl] at hx
        rcases List.mem_append.1 hx with hx | hx
        · exact HA.out x hx
        · rw [List.mem_singleton] at hx; subst hx; exact e
      clear hR
      go_wp2_with fail
      refine HC.out.mono ?_
      rintro e w3 ⟨b, rfl, hiff, hb⟩
      have hb3 := hbt.trans (hb.mono hbt.size)
      clear HC hb hbt
      cases b with
      | true =>
        have HP := Lib.hid (HY.out (hiff.1 rfl))
        clear hiff
        go_wp2_with fail
        go_ret
        exact ⟨_, rfl, ⟨fun _ => HP.out, fun _ => by omega⟩, hb3⟩
      | false =>
        have HP := Lib.hid (HN.out (fun hh => by have := hiff.2 hh; cases this))
        clear hiff
        go_wp2_with fail
        go_roundw
        case rel => exact ⟨j + 1, by omega, by go_num, HP.out, hb3⟩
        case measure => simp [intOf]; omega
    · obtain rfl : j = n := by omega
      have d1 : decide ((j : Int) < (j : Int)) = false := by simp
      have HE : Hid (¬ ∃ x ∈ l, p x) := by
        rintro ⟨x, hx, hpx⟩
        exact HA.out x (by rw [List.take_of_length_le (by rw [hl.out]; omega)]; exact hx) hpx
      go_wp2_with fail
      go_ret
      exact ⟨_, rfl, ⟨fun hh => by omega, fun hh => absurd hh HE.out⟩, hbt⟩

set_option maxRecDepth 100000 in
theorem cfR_any (A : Option Addr) (n c : Nat) (l : List Sc.Roo) (gf : Nat) (lb : Array Value) (eg : ∀ args w, (callFunc gf args).run Tryz.prog w = .ok (.enter gf args) w) (p : Sc.Roo → Prop) (w : World) (h : RdS 4 Sc.RRoo w w.heap.size A n c l) (hp : PredS Sc.RRoo gf lb p w) :
    Calls Tryz.prog 50 #[.slice A n c, .func (.func gf) #[] lb] w (Tells (∃ x ∈ l, p x) w) := by
  go_enter Tryz.func50, Tryz.ntmps50
  go_wp2_with fail
  refine (ifR_any A n c l gf lb eg p w h hp).mono ?_
  rintro e w2 ⟨i, rfl, hiff, hb⟩
  go_wp2
  go_ret
  exact ⟨_, rfl, by rw [decide_eq_true_iff]; exact hiff, hb⟩


set_option maxRecDepth 100000 in
set_option maxHeartbeats 4000000 in
theorem ifPe_any (A : Option Addr) (n c : Nat) (l : List Sc.Per) (gf : Nat) (lb : Array Value) (eg : ∀ args w, (callFunc gf args).run Tryz.prog w = .ok (.enter gf args) w) (p : Sc.Per → Prop) (w : World) (h : RdS 2 Sc.RPer w w.heap.size A n c l) (hp : PredS Sc.RPer gf lb p w) :
    Calls Tryz.prog 78 #[.slice A n c, .func (.func gf) #[] lb] w fun e w' => ∃ i : Int, e = .returned (.int .i64 i) ∧ (0 ≤ i ↔ ∃ x ∈ l, p x) ∧ Below w.heap.size w w' := by
  have h1 := h.max
  have h2 := h.le
  have hl := Lib.hid (h.len (by omega))
  go_enter Tryz.func78, Tryz.ntmps78
  go_wp2_with fail
  go_loopw [8] (fun i wr => ∃ j : Nat, j ≤ n ∧ i = .int .i64 j ∧ (∀ x ∈ l.take j, ¬ p x) ∧ Below w.heap.size w wr) (fun i _ => n - (intOf i).toNat)
  case atStart => exact ⟨0, by omega, rfl, by simp, Below.refl _ _⟩
  case round =>
    obtain ⟨j, hj, rfl, hall, hbt⟩ := hrel
    have HA := Lib.hid hall
    clear hall
    by_cases hjn : j < n
    · have hjl : j < l.length := by rw [hl.out]; exact hjn
      obtain ⟨ad, r, rfl, _, hr, hR, hc⟩ := RdS.at_ (by omega) ((h.below Sc.lasts_Per hbt).more Sc.lasts_Per hbt.size) hjn hjl
      have d1 : decide ((j : Int) < (n : Int)) = true := by simp; omega
      have d2 : decide (j < n) = true := by simp; omega
      obtain ⟨u0, u1, rfl⟩ : ∃ u0 u1, r = [u0, u1] := by
        match r, hr with
        | [u0, u1], _ => exact ⟨u0, u1, rfl⟩
      have x0 := hc 0 u0 rfl
      have x1 := hc 1 u1 rfl
      rw [Nat.add_zero] at x0
      replace x1 := cell_sub x1
      clear hc hr
      have HC := Lib.hid (hp wr l[j] _ hbt hR)
      have HY : Hid (p l[j] → ∃ x ∈ l, p x) := fun e => ⟨_, List.getElem_mem hjl, e⟩
      have HN : Hid (¬ p l[j] → ∀ x ∈ l.take (j + 1), ¬ p x) := fun e x hx => by
        rw [List.take_succ_eq_append_getElem hjl] at hx
        rcases List.mem_append.1 hx with hx | hx
        · exact HA.out x hx
        · rw [List.mem_singleton] at hx; subst hx; exact e
      clear hR
      go_wp2_with fail
      refine HC.out.mono ?_
      rintro e w3 ⟨b, rfl, hiff, hb⟩
      have hb3 := hbt.trans (hb.mono hbt.size)
      clear HC hb hbt
      cases b with
      | true =>
        have HP := Lib.hid (HY.out (hiff.1 rfl))
        clear hiff
        go_wp2_with fail
        go_ret
        exact ⟨_, rfl, ⟨fun _ => HP.out, fun _ => by omega⟩, hb3⟩
      | false =>
        have HP := Lib.hid (HN.out (fun hh => by have := hiff.2 hh; cases this))
        clear hiff
        go_wp2_with fail
        go_roundw
        case rel => exact ⟨j + 1, by omega, by go_num, HP.out, hb3⟩
        case measure => simp [intOf]; omega
    · obtain rfl : j = n := by omega
      have d1 : decide ((j : Int) < (j : Int)) = false := by simp
      have HE : Hid (¬ ∃ x ∈ l, p x) := by
        rintro ⟨x, hx, hpx⟩
        exact HA.out x (by rw [List.take_of_length_le (by rw [hl.out]; omega)]; exact hx) hpx
      go_wp2_with fail
      go_ret
      exact ⟨_, rfl, ⟨fun hh => by omega, fun hh => absurd hh HE.out⟩, hbt⟩

set_option maxRecDepth 100000 in
theorem cfPe_any (A : Option Addr) (n c : Nat) (l : List Sc.Per) (gf : Nat) (lb : Array Value) (eg : ∀ args w, (callFunc gf args).run Tryz.prog w = .ok (.enter gf args) w) (p : Sc.Per → Prop) (w : World) (h : RdS 2 Sc.RPer w w.heap.size A n c l) (hp : PredS Sc.RPer gf lb p w) :
    Calls Tryz.prog 51 #[.slice A n c, .func (.func gf) #[] lb] w (Tells (∃ x ∈ l, p x) w) := by
  go_enter Tryz.func51, Tryz.ntmps51
  go_wp2_with fail
  refine (ifPe_any A n c l gf lb eg p w h hp).mono ?_
  rintro e w2 ⟨i, rfl, hiff, hb⟩
  go_wp2
  go_ret
  exact ⟨_, rfl, by rw [decide_eq_true_iff]; exact hiff, hb⟩


set_option maxRecDepth 100000 in
set_option maxHeartbeats 4000000 in
theorem ifG_any (A : Option Addr) (n c : Nat) (l : List Sc.Gro) (gf : Nat) (lb : Array Value) (eg : ∀ args w, (callFunc gf args).run Tryz.prog w = .ok (.enter gf args) w) (p : Sc.Gro → Prop) (w : World) (h : RdS 2 Sc.RGro w w.heap.size A n c l) (hp : PredS Sc.RGro gf lb p w) :
    Calls Tryz.prog 79 #[.slice A n c, .func (.func gf) #[] lb] w fun e w' => ∃ i : Int, e = .returned (.int .i64 i) ∧ (0 ≤ i ↔ ∃ x ∈ l, p x) ∧ Below w.heap.size w w' := by
  have h1 := h.max
  have h2 := h.le
  have hl := Lib.hid (h.len (by omega))
  go_enter Tryz.func79, Tryz.ntmps79
  go_wp2_with fail
  go_loopw [8] (fun i wr => ∃ j : Nat, j ≤ n ∧ i = .int .i64 j ∧ (∀ x ∈ l.take j, ¬ p x) ∧ Below w.heap.size w wr) (fun i _ => n - (intOf i).toNat)
  case atStart => exact ⟨0, by omega, rfl, by simp, Below.refl _ _⟩
  case round =>
    obtain ⟨j, hj, rfl, hall, hbt⟩ := hrel
    have HA := Lib.hid hall
    clear hall
    by_cases hjn : j < n
    · have hjl : j < l.length := by rw [hl.out]; exact hjn
      obtain ⟨ad, r, rfl, _, hr, hR, hc⟩ := RdS.at_ (by omega) ((h.below Sc.lasts_Gro hbt).more Sc.lasts_Gro hbt.size) hjn hjl
      have d1 : decide ((j : Int) < (n : Int)) = true := by simp; omega
      have d2 : decide (j < n) = true := by simp; omega
      obtain ⟨u0, u1, rfl⟩ : ∃ u0 u1, r = [u0, u1] := by
        match r, hr with
        | [u0, u1], _ => exact ⟨u0, u1, rfl⟩
      have x0 := hc 0 u0 rfl
      have x1 := hc 1 u1 rfl
      rw [Nat.add_zero] at x0
      replace x1 := cell_sub x1
      clear hc hr
      have HC := Lib.hid (hp wr l[j] _ hbt hR)
      have HY : Hid (p l[j] → ∃ x ∈ l, p x) := fun e => ⟨_, List.getElem_mem hjl, e⟩
      have HN : Hid (¬ p l[j] → ∀ x ∈ l.take (j + 1), ¬ p x) := fun e x hx => by
        rw [List.take_succ_eq_append_getElem hjl] at hx
        rcases List.mem_append.1 hx with hx | hx
        · exact HA.out x hx
        · rw [List.mem_singleton] at hx; subst hx; exact e
      clear hR
      go_wp2_with fail
      refine HC.out.mono ?_
      rintro e w3 ⟨b, rfl, hiff, hb⟩
      have hb3 := hbt.trans (hb.mono hbt.size)
      clear HC hb hbt
      cases b with
      | true =>
        have HP := Lib.hid (HY.out (hiff.1 rfl))
        clear hiff
        go_wp2_with fail
        go_ret
        exact ⟨_, rfl, ⟨fun _ => HP.out, fun _ => by omega⟩, hb3⟩
      | false =>
        have HP := Lib.hid (HN.out (fun hh => by have := hiff.2 hh; cases this))
        clear hiff
        go_wp2_with fail
        go_roundw
        case rel => exact ⟨j + 1, by omega, by go_num, HP.out, hb3⟩
        case measure => simp [intOf]; omega
    · obtain rfl : j = n := by omega
      have d1 : decide ((j : Int) < (j : Int)) = false := by simp
      have HE : Hid (¬ ∃ x ∈ l, p x) := by
        rintro ⟨x, hx, hpx⟩
        exact HA.out x (by rw [List.take_of_length_le (by rw [hl.out]; omega)]; exact hx) hpx
      go_wp2_with fail
      go_ret
      exact ⟨_, rfl, ⟨fun hh => by omega, fun hh => absurd hh HE.out⟩, hbt⟩

set_option maxRecDepth 100000 in
theorem cfG_any (A : Option Addr) (n c : Nat) (l : List Sc.Gro) (gf : Nat) (lb : Array Value) (eg : ∀ args w, (callFunc gf args).run Tryz.prog w = .ok (.enter gf args) w) (p : Sc.Gro → Prop) (w : World) (h : RdS 2 Sc.RGro w w.heap.size A n c l) (hp : PredS Sc.RGro gf lb p w) :
    Calls Tryz.prog 52 #[.slice A n c, .func (.func gf) #[] lb] w (Tells (∃ x ∈ l, p x) w) := by
  go_enter Tryz.func52, Tryz.ntmps52
  go_wp2_with fail
  refine (ifG_any A n c l gf lb eg p w h hp).mono ?_
  rintro e w2 ⟨i, rfl, hiff, hb⟩
  go_wp2
  go_ret
  exact ⟨_, rfl, by rw [decide_eq_true_iff]; exact hiff, hb⟩


set_option maxRecDepth 100000 in
set_option maxHeartbeats 4000000 in
theorem ifL_any (A : Option Addr) (n c : Nat) (l : List Sc.Les) (gf : Nat) (lb : Array Value) (eg : ∀ args w, (callFunc gf args).run Tryz.prog w = .ok (.enter gf args) w) (p : Sc.Les → Prop) (w : World) (h : RdS 3 Sc.RLes w w.heap.size A n c l) (hp : PredS Sc.RLes gf lb p w) :
    Calls Tryz.prog 80 #[.slice A n c, .func (.func gf) #[] lb] w fun e w' => ∃ i : Int, e = .returned (.int .i64 i) ∧ (0 ≤ i ↔ ∃ x ∈ l, p x) ∧ Below w.heap.size w w' := by
  have h1 := h.max
  have h2 := h.le
  have hl := Lib.hid (h.len (by omega))
  go_enter Tryz.func80, Tryz.ntmps80
  go_wp2_with fail
  go_loopw [8] (fun i wr => ∃ j : Nat, j ≤ n ∧ i = .int .i64 j ∧ (∀ x ∈ l.take j, ¬ p x) ∧ Below w.heap.size w wr) (fun i _ => n - (intOf i).toNat)
  case atStart => exact ⟨0, by omega, rfl, by simp, Below.refl _ _⟩
  case round =>
    obtain ⟨j, hj, rfl, hall, hbt⟩ := hrel
    have HA := Lib.hid hall
    clear hall
    by_cases hjn : j < n
    · have hjl : j < l.length := by rw [hl.out]; exact hjn
      obtain ⟨ad, r, rfl, _, hr, hR, hc⟩ := RdS.at_ (by omega) ((h.below Sc.lasts_Les hbt).more Sc.lasts_Les hbt.size) hjn hjl
      have d1 : decide ((j : Int) < (n : Int)) = true := by simp; omega
      have d2 : decide (j < n) = true := by simp; omega
      obtain ⟨u0, u1, u2, rfl⟩ : ∃ u0 u1 u2, r = [u0, u1, u2] := by
        match r, hr with
        | [u0, u1, u2], _ => exact ⟨u0, u1, u2, rfl⟩
      have x0 := hc 0 u0 rfl
      have x1 := hc 1 u1 rfl
      have x2 := hc 2 u2 rfl
      rw [Nat.add_zero] at x0
      replace x1 := cell_sub x1
      replace x2 := cell_sub x2
      clear hc hr
      have HC := Lib.hid (hp wr l[j] _ hbt hR)
      have HY : Hid (p l[j] → ∃ x ∈ l, p x) := fun e => ⟨_, List.getElem_mem hjl, e⟩
      have HN : Hid (¬ p l[j] → ∀ x ∈ l.take (j + 1), ¬ p x) := fun e x hx => by
        rw [List.take_succ_eq_append_getElem hjl] at hx
        rcases List.mem_append.1 hx with hx | hx
        · exact HA.out x hx
        · rw [List.mem_singleton] at hx; subst hx; exact e
      clear hR
      go_wp2_with fail
      refine HC.out.mono ?_
      rintro e w3 ⟨b, rfl, hiff, hb⟩
      have hb3 := hbt.trans (hb.mono hbt.size)
      clear HC hb hbt
      cases b with
      | true =>
        have HP := Lib.hid (HY.out (hiff.1 rfl))
        clear hiff
        go_wp2_with fail
        go_ret
        exact ⟨_, rfl, ⟨fun _ => HP.out, fun _ => by omega⟩, hb3⟩
      | false =>
        have HP := Lib.hid (HN.out (fun hh => by have := hiff.2 hh; cases this))
        clear hiff
        go_wp2_with fail
        go_roundw
        case rel => exact ⟨j + 1, by omega, by go_num, HP.out, hb3⟩
        case measure => simp [intOf]; omega
    · obtain rfl : j = n := by omega
      have d1 : decide ((j : Int) < (j : Int)) = false := by simp
      have HE : Hid (¬ ∃ x ∈ l, p x) := by
        rintro ⟨x, hx, hpx⟩
        exact HA.out x (by rw [List.take_of_length_le (by rw [hl.out]; omega)]; exact hx) hpx
      go_wp2_with fail
      go_ret
      exact ⟨_, rfl, ⟨fun hh => by omega, fun hh => absurd hh HE.out⟩, hbt⟩

set_option maxRecDepth 100000 in
theorem cfL_any (A : Option Addr) (n c : Nat) (l : List Sc.Les) (gf : Nat) (lb : Array Value) (eg : ∀ args w, (callFunc gf args).run Tryz.prog w = .ok (.enter gf args) w) (p : Sc.Les → Prop) (w : World) (h : RdS 3 Sc.RLes w w.heap.size A n c l) (hp : PredS Sc.RLes gf lb p w) :
    Calls Tryz.prog 53 #[.slice A n c, .func (.func gf) #[] lb] w (Tells (∃ x ∈ l, p x) w) := by
  go_enter Tryz.func53, Tryz.ntmps53
  go_wp2_with fail
  refine (ifL_any A n c l gf lb eg p w h hp).mono ?_
  rintro e w2 ⟨i, rfl, hiff, hb⟩
  go_wp2
  go_ret
  exact ⟨_, rfl, by rw [decide_eq_true_iff]; exact hiff, hb⟩

end Go.Proofs.YtojbjaklngdlcaaGreatDoor
