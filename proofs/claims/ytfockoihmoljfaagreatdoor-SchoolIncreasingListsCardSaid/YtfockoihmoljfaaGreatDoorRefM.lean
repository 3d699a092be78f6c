/-
  The walk of the reference's may.
-/
import Derived.Test.YtfockoihmoljfaaGreatDoorLotR
import Derived.Test.YtfockoihmoljfaaGreatDoorSChkW
import Derived.Test.YtfockoihmoljfaaGreatDoorLotA
import Derived.BigQuiet
namespace Go.Proofs.YtfockoihmoljfaaGreatDoor
open Go.RowKit Go.Shelf
set_option linter.unusedVariables false
set_option linter.unusedSimpArgs false

theorem all_snoc {α : Type} {p : α → Prop} {l : List α} {j : Nat} (hj : j < l.length) (h : ∀ x ∈ l.take j, p x) (hp : p l[j]) : ∀ x ∈ l.take (j + 1), p x := fun x hx => by
  rw [List.take_succ_eq_append_getElem hj] at hx
  rcases List.mem_append.1 hx with hx | hx
  · exact h x hx
  · rw [List.mem_singleton] at hx; subst hx; exact hp
theorem all_done {α : Type} {p : α → Prop} {l : List α} {j : Nat} (h : ∀ x ∈ l.take j, p x) (hj : l.length ≤ j) : ∀ x ∈ l, p x := by rwa [List.take_of_length_le hj] at h

set_option maxRecDepth 100000 in
set_option maxHeartbeats 8000000 in
theorem rMay_any (f : Sc.Five) (s : Sc.Sch) (w : World) (h : Sc.RdSch w w.heap.size f s) (hb : f.nS ≤ 80 ∧ f.nR ≤ 80 ∧ f.nP ≤ 80 ∧ f.nG ≤ 80 ∧ f.nL ≤ 80) :
    Calls Tryz.prog 44 #[.agg f.vals] w (Tells (Sc.May s) w) := by
  have h0 := h
  have HLN := Lib.hid (show s.slots.length = f.nS ∧ s.rooms.length = f.nR ∧ s.people.length = f.nP ∧ s.groups.length = f.nG ∧ s.lessons.length = f.nL from ⟨h.slots.len (by omega), h.rooms.len (by omega), h.people.len (by omega), h.groups.len (by omega), h.lessons.len (by omega)⟩)
  have hbt := Below.refl w.heap.size w
  have HSZ := Lib.hid hb
  have HOK : ∀ k : Int, 1 ≤ k → k ≤ 5 → Hid (∀ x ∈ Sc.names s k, Sc.okT x) := fun k h1 h2 => h.okNames h1 h2
  clear hb
  have mS : f.nS ≤ f.cS ∧ f.cS ≤ 9223372036854775807 := ⟨h.slots.le, h.slots.max⟩
  have mR : f.nR ≤ f.cR ∧ f.cR ≤ 9223372036854775807 := ⟨h.rooms.le, h.rooms.max⟩
  have mP : f.nP ≤ f.cP ∧ f.cP ≤ 9223372036854775807 := ⟨h.people.le, h.people.max⟩
  have mG : f.nG ≤ f.cG ∧ f.cG ≤ 9223372036854775807 := ⟨h.groups.le, h.groups.max⟩
  have mL : f.nL ≤ f.cL ∧ f.cL ≤ 9223372036854775807 := ⟨h.lessons.le, h.lessons.max⟩
  obtain ⟨V1, hV⟩ : ∃ V1, V1 = w.alloc (.cells #[.slice f.aS f.nS f.cS, .slice f.aR f.nR f.cR, .slice f.aP f.nP f.cP, .slice f.aG f.nG f.cG, .slice f.aL f.nL f.cL] 28) := ⟨_, rfl⟩
  have b0 := blk_new hV
  have hb := below_new hV
  replace hbt := hbt.trans (hb.mono hbt.size)
  clear hb
  have HSV1 : Hid (V1.heap.size = w.heap.size + 1) := by show V1.heap.size = _; rw [hV, World.size_alloc]
  have HVV1 := Lib.hid hV.symm
  clear hV
  clear HSV1 h
  unfold Sc.Five.vals
  go_enter Tryz.func44, Tryz.ntmps44
  go_wp2_with fail
  rw [HVV1.out]
  clear HVV1
  go_loopw [3] (fun kv wr => ∃ k : Nat, 1 ≤ k ∧ k ≤ 6 ∧ kv = .int .i64 k ∧ (∀ q : Int, 1 ≤ q → q < k → Sc.namesOk (Sc.names s q)) ∧ wr.heap[w.heap.size]? = some (.cells #[.slice f.aS f.nS f.cS, .slice f.aR f.nR f.cR, .slice f.aP f.nP f.cP, .slice f.aG f.nG f.cG, .slice f.aL f.nL f.cL] 28) ∧ Below w.heap.size w wr) (fun kv _ => 6 - (intOf kv).toNat)
  case atStart => exact ⟨1, by omega, by omega, rfl, fun q h1 h2 => by omega, b0, hbt⟩
  case round =>
    clear b0 hbt
    obtain ⟨k, hk1, hk6, rfl, hall, b0, hbt⟩ := hrel
    have HALL := Lib.hid hall
    clear hall
    by_cases hk5 : k ≤ 5
    · have d1 : decide ((k : Int) ≤ 5) = true := by simp; omega
      have c0 := blk_cell (j := 0) b0
      simp only [List.getElem?_toArray, List.getElem?_cons_zero, List.getElem?_cons_succ] at c0
      have c1 := blk_cell (j := 1) b0
      simp only [List.getElem?_toArray, List.getElem?_cons_zero, List.getElem?_cons_succ] at c1
      have c2 := blk_cell (j := 2) b0
      simp only [List.getElem?_toArray, List.getElem?_cons_zero, List.getElem?_cons_succ] at c2
      have c3 := blk_cell (j := 3) b0
      simp only [List.getElem?_toArray, List.getElem?_cons_zero, List.getElem?_cons_succ] at c3
      have c4 := blk_cell (j := 4) b0
      simp only [List.getElem?_toArray, List.getElem?_cons_zero, List.getElem?_cons_succ] at c4
      go_wp2_with fail
      clear c0 c1 c2 c3 c4
      have hsz := HSZ.out
      refine (rNames_any f s k wr ((h0.below hbt).more hbt.size) ⟨by omega, by omega, by omega, by omega, by omega⟩).mono ?_
      clear hsz
      rintro e w2 ⟨v2, rfl, hown, hb⟩
      replace b0 := blk_below b0 hb
      replace hbt := hbt.trans (hb.mono hbt.size)
      clear hb
      obtain ⟨A2, c2, rfl, hT⟩ := own_rdT hown
      clear hown
      go_wp2_with fail
      refine (rNames_ok A2 _ c2 _ w2 hT (HOK k (by omega) (by omega)).out).mono ?_
      rintro e w3 ⟨b, rfl, hiff, hb⟩
      replace b0 := blk_below b0 hb
      replace hbt := hbt.trans (hb.mono hbt.size)
      clear hb hT
      cases b
      · have HO : Hid (¬ Sc.May s) := fun hm => by have := hiff.2 (hm.1 k (by omega) (by omega)); cases this
        clear hiff HALL
        go_wp2_with fail
        go_ret
        exact ⟨_, rfl, ⟨(fun hh => by cases hh), fun hh => absurd hh HO.out⟩, hbt⟩
      · have HA2 : Hid (∀ q : Int, 1 ≤ q → q < ((k + 1 : Nat) : Int) → Sc.namesOk (Sc.names s q)) := fun q h1 h2 => by
          by_cases hq : q < (k : Int)
          · exact HALL.out q h1 hq
          · obtain rfl : q = (k : Int) := by omega
            exact hiff.1 rfl
        clear hiff HALL
        go_wp2_with fail
        go_roundw
        case rel => exact ⟨k + 1, by omega, by omega, by go_num, HA2.out, b0, hbt⟩
        case measure => simp [intOf]; omega
    · have d1 : decide ((k : Int) ≤ 5) = false := by simp; omega
      have HK6 := Lib.hid (show k = 6 by omega)
      clear hk5 hk6 hk1
      have HNM : Hid (∀ k : Int, 1 ≤ k → k ≤ 5 → Sc.namesOk (Sc.names s k)) := fun q h1 h2 => HALL.out q h1 (by have := HK6.out; omega)
      clear HALL
      go_wp2_with fail
      go_loopw [4] (fun iv wr => ∃ j : Nat, j ≤ f.nR ∧ iv = .int .i64 j ∧ (∀ x ∈ s.rooms.take j, Sc.roomOk s.slots.length x) ∧ wr.heap[w.heap.size]? = some (.cells #[.slice f.aS f.nS f.cS, .slice f.aR f.nR f.cR, .slice f.aP f.nP f.cP, .slice f.aG f.nG f.cG, .slice f.aL f.nL f.cL] 28) ∧ Below w.heap.size w wr) (fun iv _ => f.nR - (intOf iv).toNat)
      case atStart => exact ⟨0, by omega, rfl, by simp, b0, hbt⟩
      case round =>
        clear b0 hbt
        obtain ⟨j, hj, rfl, hall, b0, hbt⟩ := hrel
        have HA := Lib.hid hall
        clear hall
        have c0 := blk_cell (j := 0) b0
        simp only [List.getElem?_toArray, List.getElem?_cons_zero, List.getElem?_cons_succ] at c0
        have c1 := blk_cell (j := 1) b0
        simp only [List.getElem?_toArray, List.getElem?_cons_zero, List.getElem?_cons_succ] at c1
        by_cases hjn : j < f.nR
        · have hjl : j < s.rooms.length := by rw [HLN.out.2.1]; exact hjn
          obtain ⟨ad, r, hA, hab, hr1, hR, hcell⟩ := ((h0.below hbt).rooms).at_ (by omega) hjn hjl
          rw [hA] at c1
          have d1 : decide ((j : Int) < (f.nR : Int)) = true := by simp; omega
          have d2 : decide (j < f.nR) = true := by simp; omega
          have HB : Hid (¬ Sc.roomOk s.slots.length s.rooms[j] → ¬ Sc.May s) := fun hn hm => hn (hm.2.2.2.2.1 _ (List.getElem_mem hjl))
          have HG : Hid (Sc.roomOk s.slots.length s.rooms[j] → ∀ x ∈ s.rooms.take (j + 1), Sc.roomOk s.slots.length x) := fun hp => all_snoc hjl HA.out hp
          clear HA
          obtain ⟨A0, c0', rfl, hI0, _, _, _⟩ := hR
          have x0 := hcell 0 (.string (strOf s.rooms[j].name)) rfl
          have x1 := cell_sub (j := 0) (hcell 1 (.int .i64 s.rooms[j].house) rfl)
          have x2 := cell_sub (j := 1) (hcell 2 (.int .i64 s.rooms[j].seats) rfl)
          have x3 := cell_sub (j := 2) (hcell 3 (.slice A0 s.rooms[j].shut.length c0') rfl)
          rw [Nat.add_zero] at x0
          clear hcell hr1 hA
          generalize s.rooms[j] = z at *
          obtain ⟨nm, ho, se, sh⟩ := z
          dsimp only at x0 x1 x2 x3 hI0
          unfold Sc.roomOk Sc.within at HB HG
          dsimp only at HB HG
          replace hI0 := hI0.more hbt.size
          have y3 : sh.length ≤ c0' ∧ c0' ≤ 9223372036854775807 := ⟨hI0.le, hI0.max⟩
          obtain ⟨n3, hn3⟩ : ∃ n3, sh.length = n3 := ⟨_, rfl⟩
          rw [hn3] at x3 hI0 y3
          clear hn3
          obtain ⟨V6, hV⟩ : ∃ V6, V6 = wr.alloc (.cells #[.string (strOf nm), .int .i64 ho, .int .i64 se, .slice A0 n3 c0'] 53) := ⟨_, rfl⟩
          have b6 := blk_new hV
          have hb := below_new hV
          have HV6 := Lib.hid hV.symm
          clear hV
          replace b0 := blk_below b0 hb
          replace hI0 := (hI0.below hb).more hb.size
          replace hbt := hbt.trans (hb.mono hbt.size)
          clear hb
          have e0 := blk_cell (j := 0) b6
          simp only [List.getElem?_toArray, List.getElem?_cons_zero, List.getElem?_cons_succ] at e0
          have e1 := blk_cell (j := 1) b6
          simp only [List.getElem?_toArray, List.getElem?_cons_zero, List.getElem?_cons_succ] at e1
          have e2 := blk_cell (j := 2) b6
          simp only [List.getElem?_toArray, List.getElem?_cons_zero, List.getElem?_cons_succ] at e2
          have e3 := blk_cell (j := 3) b6
          simp only [List.getElem?_toArray, List.getElem?_cons_zero, List.getElem?_cons_succ] at e3
          have k0 := blk_cell (j := 0) b0
          simp only [List.getElem?_toArray, List.getElem?_cons_zero, List.getElem?_cons_succ] at k0
          clear e0
          rw [← HV6.out] at e1 e2 e3 k0
          by_cases q1 : 0 ≤ ho
          · have t1 : decide (ho < 0) = false := by simp; omega
            by_cases q2 : ho ≤ 7
            · have t2 : decide (7 < ho) = false := by simp; omega
              by_cases q3 : 0 ≤ se
              · have t3 : decide (se < 0) = false := by simp; omega
                by_cases q4 : se ≤ 1000
                · have t4 : decide (1000 < se) = false := by simp; omega
                  go_wp2_with fail
                  rw [HV6.out]
                  refine (rPlaces_any A0 n3 c0' sh f.nS V6 hI0).mono ?_
                  rintro e w2 ⟨b, rfl, hiff, hb⟩
                  replace b0 := blk_below b0 hb
                  replace hbt := hbt.trans (hb.mono hbt.size)
                  clear hb hI0 HV6 e1 e2 e3 k0
                  have HLS := Lib.hid HLN.out.1
                  rw [← HLS.out] at hiff
                  cases b
                  · have HO : Hid (¬ Sc.May s) := HB.out (fun hh => by have := hiff.2 hh.2.2; cases this)
                    clear HB HG hiff
                    go_wp2_with fail
                    go_ret
                    exact ⟨_, rfl, ⟨(fun hh => by cases hh), fun hh => absurd hh HO.out⟩, hbt⟩
                  · have HO := Lib.hid (HG.out ⟨⟨q1, q2⟩, ⟨q3, q4⟩, hiff.1 rfl⟩)
                    clear HB HG hiff
                    go_wp2_with fail
                    go_roundw
                    case rel => exact ⟨j + 1, by omega, by go_num, HO.out, b0, hbt⟩
                    case measure => simp [intOf]; omega
                · have t4 : decide (1000 < se) = true := by simp; omega
                  have HO : Hid (¬ Sc.May s) := HB.out (fun hh => by have h1 := hh.1; have h2 := hh.2.1; omega)
                  clear HB HG
                  go_wp2_with fail
                  rw [HV6.out]
                  go_ret
                  exact ⟨_, rfl, ⟨(fun hh => by cases hh), fun hh => absurd hh HO.out⟩, hbt⟩
              · have t3 : decide (se < 0) = true := by simp; omega
                have HO : Hid (¬ Sc.May s) := HB.out (fun hh => by have h1 := hh.1; have h2 := hh.2.1; omega)
                clear HB HG
                go_wp2_with fail
                rw [HV6.out]
                go_ret
                exact ⟨_, rfl, ⟨(fun hh => by cases hh), fun hh => absurd hh HO.out⟩, hbt⟩
            · have t2 : decide (7 < ho) = true := by simp; omega
              have HO : Hid (¬ Sc.May s) := HB.out (fun hh => by have h1 := hh.1; have h2 := hh.2.1; omega)
              clear HB HG
              go_wp2_with fail
              rw [HV6.out]
              go_ret
              exact ⟨_, rfl, ⟨(fun hh => by cases hh), fun hh => absurd hh HO.out⟩, hbt⟩
          · have t1 : decide (ho < 0) = true := by simp; omega
            have HO : Hid (¬ Sc.May s) := HB.out (fun hh => by have h1 := hh.1; have h2 := hh.2.1; omega)
            clear HB HG
            go_wp2_with fail
            rw [HV6.out]
            go_ret
            exact ⟨_, rfl, ⟨(fun hh => by cases hh), fun hh => absurd hh HO.out⟩, hbt⟩
        · obtain rfl : j = f.nR := by omega
          have d1 : decide ((f.nR : Int) < (f.nR : Int)) = false := by simp
          have HRO : Hid (∀ x ∈ s.rooms, Sc.roomOk s.slots.length x) := all_done HA.out (by rw [HLN.out.2.1]; omega)
          clear HA
          go_wp2_with fail
          clear c0 c1
          go_loopw [6] (fun iv wr => ∃ j : Nat, j ≤ f.nP ∧ iv = .int .i64 j ∧ (∀ x ∈ s.people.take j, Sc.incr x.away s.slots.length) ∧ wr.heap[w.heap.size]? = some (.cells #[.slice f.aS f.nS f.cS, .slice f.aR f.nR f.cR, .slice f.aP f.nP f.cP, .slice f.aG f.nG f.cG, .slice f.aL f.nL f.cL] 28) ∧ Below w.heap.size w wr) (fun iv _ => f.nP - (intOf iv).toNat)
          case atStart => exact ⟨0, by omega, rfl, by simp, b0, hbt⟩
          case round =>
            clear b0 hbt
            obtain ⟨j, hj, rfl, hall, b0, hbt⟩ := hrel
            have HA := Lib.hid hall
            clear hall
            have c2 := blk_cell (j := 2) b0
            simp only [List.getElem?_toArray, List.getElem?_cons_zero, List.getElem?_cons_succ] at c2
            by_cases hjn : j < f.nP
            · have hjl : j < s.people.length := by rw [HLN.out.2.2.1]; exact hjn
              obtain ⟨ad, r, hA, hab, hr1, hR, hcell⟩ := ((h0.below hbt).people).at_ (by omega) hjn hjl
              rw [hA] at c2
              have HAD := Lib.hid hA
              clear hA
              have d1 : decide ((j : Int) < (f.nP : Int)) = true := by simp; omega
              have d2 : decide (j < f.nP) = true := by simp; omega
              have HB : Hid (¬ Sc.incr s.people[j].away s.slots.length → ¬ Sc.May s) := fun hn hm => hn (hm.2.2.2.2.2.1 _ (List.getElem_mem hjl))
              have HG : Hid (Sc.incr s.people[j].away s.slots.length → ∀ x ∈ s.people.take (j + 1), Sc.incr x.away s.slots.length) := fun hp => all_snoc hjl HA.out hp
              clear HA
              obtain ⟨A0, c0', rfl, hI0, _⟩ := hR
              have x1 := cell_sub (j := 0) (hcell 1 (.slice A0 s.people[j].away.length c0') rfl)
              clear hcell hr1
              generalize s.people[j] = z at *
              obtain ⟨nm, sh⟩ := z
              dsimp only at x1 hI0 HB HG
              replace hI0 := hI0.more hbt.size
              have y3 : sh.length ≤ c0' ∧ c0' ≤ 9223372036854775807 := ⟨hI0.le, hI0.max⟩
              obtain ⟨n3, hn3⟩ : ∃ n3, sh.length = n3 := ⟨_, rfl⟩
              rw [hn3] at x1 hI0 y3
              clear hn3
              go_wp2_with fail
              clear c2
              have hlx := World.block_lt_of_cell? _ _ x1
              clear hlx
              refine wp_region_plan [([0, 1, 2, 3, 4, 5, 6, 7, 8], some 9), ([10], none)] (by kernel_rfl) (by kernel_rfl) ?_
              intro wd hsz hb
              clear hsz
              replace b0 := blk_below b0 hb
              replace hI0 := (hI0.below hb).more hb.size
              replace x1 := (hb.cell (World.block_lt_of_cell? _ _ x1)).trans x1
              replace hbt := hbt.trans (hb.mono hbt.size)
              clear hb
              simp only [pickP, pick, List.map_cons, List.map_nil, Option.map_some, Option.map_none, List.getD_cons_zero, List.getD_cons_succ]
              have c0 : ∀ x : Ext wd.heap.size wd, x.val.cell? ⟨w.heap.size, 0, none⟩ = some (.slice f.aS f.nS f.cS) := fun x => ((x.cell (blk_lt b0)).trans (blk_cell b0)).trans rfl
              try rw [HAD.out] at c0
              have c2 : ∀ x : Ext wd.heap.size wd, x.val.cell? ⟨w.heap.size, 2, none⟩ = some (.slice f.aP f.nP f.cP) := fun x => ((x.cell (blk_lt b0)).trans (blk_cell b0)).trans rfl
              try rw [HAD.out] at c2
              have q1 := fun x : Ext wd.heap.size wd => (x.cell (World.block_lt_of_cell? _ _ x1)).trans x1
              refine plan_cons ?_
              (repeat (go_big_quiet_step (fail)))
              refine plan_nil ?_
              clear c0 c2 q1
              refine plan_call (by kernel_rfl) (fun K hK => ?_)
              go_simp
              refine (rPlaces_any A0 n3 c0' sh f.nS wd hI0).mono ?_
              rintro e w2 ⟨b, rfl, hiff, hb⟩
              have HLS := Lib.hid HLN.out.1
              rw [← HLS.out] at hiff
              clear x1
              refine hK.out _ _ hb ?_
              clear hK K
              (try simp only [Act.put, List.setIfInBounds_toArray, List.set_cons_zero, List.set_cons_succ])
              replace b0 := blk_below b0 hb
              replace hbt := hbt.trans (hb.mono hbt.size)
              clear hb
              refine plan_cons ?_
              (repeat (go_big_quiet_step (fail)))
              refine plan_nil ?_
              refine plan_end ?_
              cases b
              · have HO : Hid (¬ Sc.May s) := HB.out (fun hh => by have := hiff.2 hh; cases this)
                clear HB HG hiff hI0
                go_wp2_with fail
                go_ret
                exact ⟨_, rfl, ⟨(fun hh => by cases hh), fun hh => absurd hh HO.out⟩, hbt⟩
              · have HO := Lib.hid (HG.out (hiff.1 rfl))
                clear HB HG hiff hI0
                go_wp2_with fail
                go_roundw
                case rel => exact ⟨j + 1, by omega, by go_num, HO.out, b0, hbt⟩
                case measure => simp [intOf]; omega
            · obtain rfl : j = f.nP := by omega
              have d1 : decide ((f.nP : Int) < (f.nP : Int)) = false := by simp
              have HAP : Hid (∀ x ∈ s.people, Sc.incr x.away s.slots.length) := all_done HA.out (by rw [HLN.out.2.2.1]; omega)
              clear HA
              go_wp2_with fail
              clear c2
              go_loopw [7] (fun iv wr => ∃ j : Nat, j ≤ f.nG ∧ iv = .int .i64 j ∧ (∀ x ∈ s.groups.take j, Sc.within x.size 1000) ∧ wr.heap[w.heap.size]? = some (.cells #[.slice f.aS f.nS f.cS, .slice f.aR f.nR f.cR, .slice f.aP f.nP f.cP, .slice f.aG f.nG f.cG, .slice f.aL f.nL f.cL] 28) ∧ Below w.heap.size w wr) (fun iv _ => f.nG - (intOf iv).toNat)
              case atStart => exact ⟨0, by omega, rfl, by simp, b0, hbt⟩
              case round =>
                clear b0 hbt
                obtain ⟨j, hj, rfl, hall, b0, hbt⟩ := hrel
                have HA := Lib.hid hall
                clear hall
                have c3 := blk_cell (j := 3) b0
                simp only [List.getElem?_toArray, List.getElem?_cons_zero, List.getElem?_cons_succ] at c3
                by_cases hjn : j < f.nG
                · have hjl : j < s.groups.length := by rw [HLN.out.2.2.2.1]; exact hjn
                  obtain ⟨ad, r, hA, hab, hr1, hR, hcell⟩ := ((h0.below hbt).groups).at_ (by omega) hjn hjl
                  rw [hA] at c3
                  have HAD := Lib.hid hA
                  clear hA
                  have d1 : decide ((j : Int) < (f.nG : Int)) = true := by simp; omega
                  have d2 : decide (j < f.nG) = true := by simp; omega
                  have HB : Hid (¬ Sc.within s.groups[j].size 1000 → ¬ Sc.May s) := fun hn hm => hn (hm.2.2.2.2.2.2.1 _ (List.getElem_mem hjl))
                  have HG : Hid (Sc.within s.groups[j].size 1000 → ∀ x ∈ s.groups.take (j + 1), Sc.within x.size 1000) := fun hp => all_snoc hjl HA.out hp
                  clear HA
                  obtain ⟨rfl, _, _⟩ := hR
                  have x1 := cell_sub (j := 0) (hcell 1 (.int .i64 s.groups[j].size) rfl)
                  clear hcell hr1
                  generalize s.groups[j].size = z at *
                  unfold Sc.within at HB HG
                  by_cases z1 : 0 ≤ z
                  · have t1 : decide (z < 0) = false := by simp; omega
                    by_cases z2 : z ≤ 1000
                    · have t2 : decide (1000 < z) = false := by simp; omega
                      have HO := Lib.hid (HG.out ⟨z1, z2⟩)
                      clear HB HG
                      go_wp2_with fail
                      go_roundw
                      case rel => exact ⟨j + 1, by omega, by go_num, HO.out, b0, hbt⟩
                      case measure => simp [intOf]; omega
                    · have t2 : decide (1000 < z) = true := by simp; omega
                      have HO : Hid (¬ Sc.May s) := HB.out (by omega)
                      clear HB HG
                      go_wp2_with fail
                      go_ret
                      exact ⟨_, rfl, ⟨(fun hh => by cases hh), fun hh => absurd hh HO.out⟩, hbt⟩
                  · have t1 : decide (z < 0) = true := by simp; omega
                    have HO : Hid (¬ Sc.May s) := HB.out (by omega)
                    clear HB HG
                    go_wp2_with fail
                    go_ret
                    exact ⟨_, rfl, ⟨(fun hh => by cases hh), fun hh => absurd hh HO.out⟩, hbt⟩
                · obtain rfl : j = f.nG := by omega
                  have d1 : decide ((f.nG : Int) < (f.nG : Int)) = false := by simp
                  have HAG : Hid (∀ x ∈ s.groups, Sc.within x.size 1000) := all_done HA.out (by rw [HLN.out.2.2.2.1]; omega)
                  clear HA
                  go_wp2_with fail
                  clear c3
                  go_loopw [8] (fun iv wr => ∃ j : Nat, j ≤ f.nL ∧ iv = .int .i64 j ∧ (∀ x ∈ s.lessons.take j, Sc.lessonOk s.people.length s.groups.length x) ∧ wr.heap[w.heap.size]? = some (.cells #[.slice f.aS f.nS f.cS, .slice f.aR f.nR f.cR, .slice f.aP f.nP f.cP, .slice f.aG f.nG f.cG, .slice f.aL f.nL f.cL] 28) ∧ Below w.heap.size w wr) (fun iv _ => f.nL - (intOf iv).toNat)
                  case atStart => exact ⟨0, by omega, rfl, by simp, b0, hbt⟩
                  case round =>
                    clear b0 hbt
                    obtain ⟨j, hj, rfl, hall, b0, hbt⟩ := hrel
                    have HA := Lib.hid hall
                    clear hall
                    have c4 := blk_cell (j := 4) b0
                    simp only [List.getElem?_toArray, List.getElem?_cons_zero, List.getElem?_cons_succ] at c4
                    by_cases hjn : j < f.nL
                    · have hjl : j < s.lessons.length := by rw [HLN.out.2.2.2.2]; exact hjn
                      obtain ⟨ad, r, hA, hab, hr1, hR, hcell⟩ := ((h0.below hbt).lessons).at_ (by omega) hjn hjl
                      rw [hA] at c4
                      have HAD := Lib.hid hA
                      clear hA
                      have d1 : decide ((j : Int) < (f.nL : Int)) = true := by simp; omega
                      have d2 : decide (j < f.nL) = true := by simp; omega
                      have HB : Hid (¬ Sc.lessonOk s.people.length s.groups.length s.lessons[j] → ¬ Sc.May s) := fun hn hm => hn (hm.2.2.2.2.2.2.2 _ (List.getElem_mem hjl))
                      have HG : Hid (Sc.lessonOk s.people.length s.groups.length s.lessons[j] → ∀ x ∈ s.lessons.take (j + 1), Sc.lessonOk s.people.length s.groups.length x) := fun hp => all_snoc hjl HA.out hp
                      clear HA
                      obtain ⟨A0, c0', A1, c1', rfl, hI0, hI1, _⟩ := hR
                      have x1 := cell_sub (j := 0) (hcell 1 (.slice A0 s.lessons[j].who.length c0') rfl)
                      have x2 := cell_sub (j := 1) (hcell 2 (.slice A1 s.lessons[j].groups.length c1') rfl)
                      clear hcell hr1
                      generalize s.lessons[j] = z at *
                      obtain ⟨nm, sh, gr⟩ := z
                      unfold Sc.lessonOk at HB HG
                      dsimp only at x1 x2 hI0 hI1 HB HG
                      replace hI0 := hI0.more hbt.size
                      replace hI1 := hI1.more hbt.size
                      have y3 : sh.length ≤ c0' ∧ c0' ≤ 9223372036854775807 := ⟨hI0.le, hI0.max⟩
                      have y4 : gr.length ≤ c1' ∧ c1' ≤ 9223372036854775807 := ⟨hI1.le, hI1.max⟩
                      obtain ⟨n3, hn3⟩ : ∃ n3, sh.length = n3 := ⟨_, rfl⟩
                      rw [hn3] at x1 hI0 y3
                      clear hn3
                      obtain ⟨n4, hn4⟩ : ∃ n4, gr.length = n4 := ⟨_, rfl⟩
                      rw [hn4] at x2 hI1 y4
                      clear hn4
                      go_wp2_with fail
                      clear c4
                      refine wp_region_plan [([0, 1, 2, 3, 4, 5, 6, 7, 8], some 9), ([10, 11, 12, 13, 14, 15, 16, 17, 18, 19, 20], some 21), ([22, 23], none)] (by kernel_rfl) (by kernel_rfl) ?_
                      intro wd hsz hb
                      clear hsz
                      replace b0 := blk_below b0 hb
                      replace hI0 := (hI0.below hb).more hb.size
                      replace hI1 := (hI1.below hb).more hb.size
                      replace x1 := (hb.cell (World.block_lt_of_cell? _ _ x1)).trans x1
                      replace x2 := (hb.cell (World.block_lt_of_cell? _ _ x2)).trans x2
                      replace hbt := hbt.trans (hb.mono hbt.size)
                      clear hb
                      simp only [pickP, pick, List.map_cons, List.map_nil, Option.map_some, Option.map_none, List.getD_cons_zero, List.getD_cons_succ]
                      have c2 : ∀ x : Ext wd.heap.size wd, x.val.cell? ⟨w.heap.size, 2, none⟩ = some (.slice f.aP f.nP f.cP) := fun x => ((x.cell (blk_lt b0)).trans (blk_cell b0)).trans rfl
                      try rw [HAD.out] at c2
                      have c3 : ∀ x : Ext wd.heap.size wd, x.val.cell? ⟨w.heap.size, 3, none⟩ = some (.slice f.aG f.nG f.cG) := fun x => ((x.cell (blk_lt b0)).trans (blk_cell b0)).trans rfl
                      try rw [HAD.out] at c3
                      have c4 : ∀ x : Ext wd.heap.size wd, x.val.cell? ⟨w.heap.size, 4, none⟩ = some (.slice f.aL f.nL f.cL) := fun x => ((x.cell (blk_lt b0)).trans (blk_cell b0)).trans rfl
                      try rw [HAD.out] at c4
                      have q1 := fun x : Ext wd.heap.size wd => (x.cell (World.block_lt_of_cell? _ _ x1)).trans x1
                      have q2 := fun x : Ext wd.heap.size wd => (x.cell (World.block_lt_of_cell? _ _ x2)).trans x2
                      refine plan_cons ?_
                      (repeat (go_big_quiet_step (fail)))
                      refine plan_nil ?_
                      clear c2 c3 c4 q1 q2
                      refine plan_call (by kernel_rfl) (fun K hK => ?_)
                      go_simp
                      refine (rPlaces_any A0 n3 c0' sh f.nP wd hI0).mono ?_
                      rintro e w2 ⟨b, rfl, hiff, hb⟩
                      have HLP := Lib.hid HLN.out.2.2.1
                      have HLG := Lib.hid HLN.out.2.2.2.1
                      rw [← HLP.out] at hiff
                      clear x1
                      refine hK.out _ _ hb ?_
                      clear hK K
                      (try simp only [Act.put, List.setIfInBounds_toArray, List.set_cons_zero, List.set_cons_succ])
                      replace b0 := blk_below b0 hb
                      replace hI1 := (hI1.below hb).more hb.size
                      replace x2 := (hb.cell (World.block_lt_of_cell? _ _ x2)).trans x2
                      replace hbt := hbt.trans (hb.mono hbt.size)
                      clear hb
                      clear hI0
                      cases b
                      · have HO : Hid (¬ Sc.May s) := HB.out (fun hh => by have := hiff.2 hh.1; cases this)
                        clear HB HG hiff hI1
                        refine plan_cons ?_
                        (repeat (go_big_quiet_step (fail)))
                        refine plan_nil ?_
                        refine plan_pass (by kernel_rfl) ?_
                        (try simp only [Act.put, List.setIfInBounds_toArray, List.set_cons_zero, List.set_cons_succ])
                        refine plan_cons ?_
                        (repeat (go_big_quiet_step (fail)))
                        refine plan_nil ?_
                        refine plan_end ?_
                        go_wp2_with fail
                        go_ret
                        exact ⟨_, rfl, ⟨(fun hh => by cases hh), fun hh => absurd hh HO.out⟩, hbt⟩
                      · have c2 : ∀ x : Ext w2.heap.size w2, x.val.cell? ⟨w.heap.size, 2, none⟩ = some (.slice f.aP f.nP f.cP) := fun x => ((x.cell (blk_lt b0)).trans (blk_cell b0)).trans rfl
                        try rw [HAD.out] at c2
                        have c3 : ∀ x : Ext w2.heap.size w2, x.val.cell? ⟨w.heap.size, 3, none⟩ = some (.slice f.aG f.nG f.cG) := fun x => ((x.cell (blk_lt b0)).trans (blk_cell b0)).trans rfl
                        try rw [HAD.out] at c3
                        have c4 : ∀ x : Ext w2.heap.size w2, x.val.cell? ⟨w.heap.size, 4, none⟩ = some (.slice f.aL f.nL f.cL) := fun x => ((x.cell (blk_lt b0)).trans (blk_cell b0)).trans rfl
                        try rw [HAD.out] at c4
                        have q1 := fun x : Ext w2.heap.size w2 => (x.cell (World.block_lt_of_cell? _ _ x2)).trans x2
                        refine plan_cons ?_
                        (repeat (go_big_quiet_step (fail)))
                        refine plan_nil ?_
                        clear c2 c3 c4 q1
                        refine plan_call (by kernel_rfl) (fun K hK => ?_)
                        go_simp
                        refine (rPlaces_any A1 n4 c1' gr f.nG w2 hI1).mono ?_
                        rintro e w3 ⟨b, rfl, hiff2, hb⟩
                        rw [← HLG.out] at hiff2
                        clear x2
                        refine hK.out _ _ hb ?_
                        clear hK K
                        (try simp only [Act.put, List.setIfInBounds_toArray, List.set_cons_zero, List.set_cons_succ])
                        replace b0 := blk_below b0 hb
                        replace hbt := hbt.trans (hb.mono hbt.size)
                        clear hb
                        refine plan_cons ?_
                        (repeat (go_big_quiet_step (fail)))
                        refine plan_nil ?_
                        refine plan_end ?_
                        cases b
                        · have HO : Hid (¬ Sc.May s) := HB.out (fun hh => by have := hiff2.2 hh.2; cases this)
                          clear HB HG hiff hiff2 hI1
                          go_wp2_with fail
                          go_ret
                          exact ⟨_, rfl, ⟨(fun hh => by cases hh), fun hh => absurd hh HO.out⟩, hbt⟩
                        · have HO := Lib.hid (HG.out ⟨hiff.1 rfl, hiff2.1 rfl⟩)
                          clear HB HG hiff hiff2 hI1
                          go_wp2_with fail
                          go_roundw
                          case rel => exact ⟨j + 1, by omega, by go_num, HO.out, b0, hbt⟩
                          case measure => simp [intOf]; omega
                    · obtain rfl : j = f.nL := by omega
                      have d1 : decide ((f.nL : Int) < (f.nL : Int)) = false := by simp
                      have HAL : Hid (∀ x ∈ s.lessons, Sc.lessonOk s.people.length s.groups.length x) := all_done HA.out (by rw [HLN.out.2.2.2.2]; omega)
                      clear HA
                      have c0 := blk_cell (j := 0) b0
                      simp only [List.getElem?_toArray, List.getElem?_cons_zero, List.getElem?_cons_succ] at c0
                      have c1 := blk_cell (j := 1) b0
                      simp only [List.getElem?_toArray, List.getElem?_cons_zero, List.getElem?_cons_succ] at c1
                      go_wp2_with fail
                      have hsz := HSZ.out
                      refine (rSlots_any f.aS f.nS f.cS s.slots wr ((h0.below hbt).more hbt.size).slots (by omega)).mono ?_
                      clear hsz
                      rintro e w2 ⟨b, rfl, hiff, hb⟩
                      replace b0 := blk_below b0 hb
                      replace hbt := hbt.trans (hb.mono hbt.size)
                      clear hb c0 c1
                      have c1 := blk_cell (j := 1) b0
                      simp only [List.getElem?_toArray, List.getElem?_cons_zero, List.getElem?_cons_succ] at c1
                      cases b
                      · have HO : Hid (¬ Sc.May s) := fun hm => by have := hiff.2 ⟨hm.2.1, hm.2.2.1⟩; cases this
                        clear hiff
                        go_wp2_with fail
                        go_ret
                        exact ⟨_, rfl, ⟨(fun hh => by cases hh), fun hh => absurd hh HO.out⟩, hbt⟩
                      · have HT := Lib.hid (hiff.1 rfl)
                        clear hiff
                        by_cases h0R : 0 < f.nR
                        · have d9 : decide ((0 : Int) < (f.nR : Int)) = true := by simp; omega
                          have d9' : decide (0 < f.nR) = true := by simp; omega
                          have HO : Hid (Sc.May s) := ⟨HNM.out, HT.out.1, HT.out.2, fun e => by have := HLN.out.2.1; rw [e] at this; simp at this; omega, HRO.out, HAP.out, HAG.out, HAL.out⟩
                          go_wp2_with fail
                          go_ret
                          exact ⟨_, rfl, ⟨fun _ => HO.out, fun _ => rfl⟩, hbt⟩
                        · have d9 : decide ((0 : Int) < (f.nR : Int)) = false := by simp; omega
                          have d9' : decide (0 < f.nR) = false := by simp; omega
                          have HO : Hid (¬ Sc.May s) := fun hm => hm.2.2.2.1 (List.eq_nil_of_length_eq_zero (by rw [HLN.out.2.1]; omega))
                          go_wp2_with fail
                          go_ret
                          exact ⟨_, rfl, ⟨(fun hh => by cases hh), fun hh => absurd hh HO.out⟩, hbt⟩

end Go.Proofs.YtfockoihmoljfaaGreatDoor
