/-
  The walk of the reference's Names.
-/
import Derived.Test.YtojbjaklngdlcaaGreatDoorSchR
namespace Go.Proofs.YtojbjaklngdlcaaGreatDoor
open Go.RowKit Go.Shelf
set_option linter.unusedVariables false
set_option linter.unusedSimpArgs false

theorem elStr : El Tryz.prog 110 9 (.string ⟨#[]⟩) 16 := ⟨Tryz.underlying110, by kernel_rfl, rfl⟩
/-- Texts as cells. -/
def sv (l : List (List UInt8)) : List Value := l.map fun s => .string (strOf s)
theorem sv_append (l r : List (List UInt8)) : sv (l ++ r) = sv l ++ sv r := List.map_append
theorem sv_length (l : List (List UInt8)) : (sv l).length = l.length := List.length_map _
def RdT (w : World) (B : Nat) (A : Option Addr) (n c : Nat) (l : List (List UInt8)) : Prop := Rd w B A n c (sv l)
section
variable {w w' : World} {B B' : Nat} {A : Option Addr} {n c : Nat} {l : List (List UInt8)}
theorem RdT.below (h : RdT w B A n c l) (hb : Below B w w') : RdT w' B A n c l := Rd.below h hb
theorem RdT.more (h : RdT w B A n c l) (hB : B ≤ B') : RdT w B' A n c l := Rd.more h hB
theorem RdT.len (h : RdT w B A n c l) : l.length = n := by have := Rd.len h; rwa [sv_length] at this
theorem RdT.le (h : RdT w B A n c l) : n ≤ c := Rd.le h
theorem RdT.max (h : RdT w B A n c l) : c ≤ 9223372036854775807 := Rd.max h
theorem RdT.at_ (h : RdT w B A n c l) {k : Nat} (hk : k < n) (hl : k < l.length) : ∃ ad, A = some ad ∧ ad.block < B ∧ w.cell? (ad.add k) = some (.string (strOf l[k])) := by
  obtain ⟨ad, u, e, hb, hu, hc⟩ := Rd.at_ h hk
  refine ⟨ad, e, hb, hc.trans ?_⟩
  rw [← hu]; simp [sv, hl]
end
theorem own_rdT {w : World} {base n : Nat} {e : TypeId} {v : Value} {l : List (List UInt8)} (h : w.ownsRow base e 1 v n (sv l)) : ∃ A c, v = .slice A n c ∧ RdT w w.heap.size A n c l := own_rd h
theorem one_str (s : ByteArray) : ∀ u ∈ [Value.string s], u.oneCell' = true := by intro u hu; simp at hu; subst hu; rfl
/-- A new block, as a row of the call's own. -/
theorem own_blk {w : World} {b base n : Nat} {cs : Array Value} {t : TypeId} {xs : List Value} (h : w.heap[b]? = some (.cells cs t)) (hx : cs.toList = xs) (hn : xs.length = n) (hm : n ≤ 9223372036854775807) (hb : base ≤ b) : w.ownsRow base t 1 (.slice (some ⟨b, 0, none⟩) n n) n xs := by
  refine ⟨by omega, .inr ⟨b, n, cs, rfl, hb, h, Nat.le_refl _, by unfold maxLen; omega, ?_, ?_⟩⟩
  · have : cs.toList.length = n := by rw [hx, hn]
    simp at this
    omega
  · have : cs.toList.length = n := by rw [hx, hn]
    rw [hx, List.take_of_length_le (by omega)]
/-- What Names answers. -/
def NamesPost (l : List (List UInt8)) (w : World) (e : Ending) (w' : World) : Prop := ∃ v, e = .returned v ∧ w'.ownsRow w.heap.size 9 1 v l.length (sv l) ∧ Below w.heap.size w w'
theorem take_map_snoc {α β : Type} (g : α → β) {l : List α} {k : Nat} (hk : k < l.length) : (l.take (k + 1)).map g = (l.take k).map g ++ [g l[k]] := by
  rw [List.take_succ_eq_append_getElem hk, List.map_append]; rfl

set_option maxRecDepth 100000 in
set_option maxHeartbeats 4000000 in
theorem rNames_any (f : Sc.Five) (s : Sc.Sch) (k : Int) (w : World) (h : Sc.RdSch w w.heap.size f s) (hb : f.nS ≤ 5864062014805 ∧ f.nR ≤ 5864062014805 ∧ f.nP ≤ 5864062014805 ∧ f.nG ≤ 5864062014805 ∧ f.nL ≤ 5864062014805) :
    Calls Tryz.prog 56 #[.agg f.vals, .int .i64 k] w (NamesPost (Sc.names s k) w) := by
  have h0 := h
  have hbt := Below.refl w.heap.size w
  have HSZ := Lib.hid hb
  clear hb
  obtain ⟨V1, hV⟩ : ∃ V1, V1 = w.alloc (.cells #[.slice f.aS f.nS f.cS, .slice f.aR f.nR f.cR, .slice f.aP f.nP f.cP, .slice f.aG f.nG f.cG, .slice f.aL f.nL f.cL] 28) := ⟨_, rfl⟩
  have b0 := blk_new hV
  have hb := below_new hV
  replace h := (h.below hb).more hb.size
  replace hbt := hbt.trans (hb.mono hbt.size)
  clear hb
  have HSV1 : Hid (V1.heap.size = w.heap.size + 1) := by show V1.heap.size = _; rw [hV, World.size_alloc]
  have HVV1 := Lib.hid hV.symm
  clear hV
  unfold Sc.Five.vals
  have hV1s : w.heap.size < V1.heap.size := blk_lt b0
  by_cases h1 : k = 1
  · subst h1
    obtain ⟨hnl, hml, hll⟩ : f.nL ≤ f.cL ∧ f.cL ≤ 9223372036854775807 ∧ s.lessons.length = f.nL := ⟨h.lessons.le, h.lessons.max, h.lessons.len (by omega)⟩
    have HLL := Lib.hid hll
    clear hll
    have hbX : f.nL ≤ 5864062014805 := HSZ.out.2.2.2.2
    rw [show Sc.names s 1 = s.lessons.map (·.name) from rfl]
    go_enter Tryz.func56, Tryz.ntmps56
    go_wp2_with fail
    rw [HVV1.out]
    clear HVV1
    go_loopw [5, 6] (fun v iv wr => ∃ j : Nat, j ≤ f.nL ∧ iv = .int .i64 j ∧ wr.ownsRow w.heap.size 9 1 v j (sv ((s.lessons.take j).map (·.name))) ∧ wr.heap[w.heap.size]? = some (.cells #[.slice f.aS f.nS f.cS, .slice f.aR f.nR f.cR, .slice f.aP f.nP f.cP, .slice f.aG f.nG f.cG, .slice f.aL f.nL f.cL] 28) ∧ Below w.heap.size w wr) (fun _ iv _ => f.nL - (intOf iv).toNat)
    case atStart => exact ⟨0, by omega, rfl, World.ownsRow_nil _ _ _ _, b0, hbt⟩
    case round =>
      clear b0 hbt h
      obtain ⟨j, hj, rfl, hown, b0, hbt⟩ := hrel
      have c4 := blk_cell (j := 4) b0
      simp only [List.getElem?_toArray, List.getElem?_cons_zero, List.getElem?_cons_succ] at c4
      by_cases hjn : j < f.nL
      · have hjl : j < s.lessons.length := by rw [HLL.out]; exact hjn
        obtain ⟨ad, r, hA, hab, hr1, hR, hcell⟩ := ((h0.below hbt).lessons).at_ (by omega) hjn hjl
        have x0 := hcell 0 (.string (strOf s.lessons[j].name)) (by obtain ⟨_, _, _, _, rfl, _, _, hok⟩ := hR; rfl)
        rw [Nat.add_zero] at x0
        rw [hA] at c4
        have d1 : decide ((j : Int) < (f.nL : Int)) = true := by simp; omega
        have d2 : decide (j < f.nL) = true := by simp; omega
        have HT := Lib.hid (take_map_snoc (·.name) hjl)
        generalize s.lessons[j] = x at *
        clear hcell hR hA
        obtain ⟨A5, c5, rfl, _⟩ := own_rdT (l := (s.lessons.take j).map (·.name)) hown
        have hbs := hbt.size
        go_wp2_with (at_builtin; refine wpList_app _ _ elStr (hown.alloc _) (Rd.one wr (.string (strOf x.name)) 9) (one_str _) (by omega) (by omega) (by simp; omega) rfl rfl rfl rfl ?_; intro v2 w2 hown2 hg2 hat2; obtain ⟨A6, c6, rfl, _⟩ := own_rd hown2)
        have b2 := blk_grown (blk_below b0 (below_new rfl)) hg2 (fun e => own_blk_ne hown b0 (by decide) _ e.symm rfl)
        have hb2 : Below w.heap.size w w2 := (hbt.alloc hbs _).grown hg2 (by simp; omega) (own_lt hown)
        go_roundw
        case rel => exact ⟨j + 1, by omega, by go_num, by rw [HT.out, sv_append]; exact hown2, b2, hb2⟩
        case measure => simp [intOf]; omega
      · obtain rfl : j = f.nL := by omega
        have d1 : decide ((f.nL : Int) < (f.nL : Int)) = false := by simp
        rw [List.take_of_length_le (by rw [HLL.out]; omega)] at hown
        have HL2 : Hid ((s.lessons.map (·.name)).length = f.nL) := by show _ = _; rw [List.length_map, HLL.out]
        go_wp2_with fail
        go_ret
        exact ⟨_, rfl, by rw [HL2.out]; exact hown, hbt⟩
  · by_cases h2 : k = 2
    · subst h2
      clear h1
      obtain ⟨hnl, hml, hll⟩ : f.nS ≤ f.cS ∧ f.cS ≤ 9223372036854775807 ∧ s.slots.length = f.nS := ⟨h.slots.le, h.slots.max, h.slots.len (by omega)⟩
      have HLL := Lib.hid hll
      clear hll
      have hbX : f.nS ≤ 5864062014805 := HSZ.out.1
      rw [show Sc.names s 2 = s.slots.map (·.name) from rfl]
      go_enter Tryz.func56, Tryz.ntmps56
      go_wp2_with fail
      rw [HVV1.out]
      clear HVV1
      go_loopw [5, 7] (fun v iv wr => ∃ j : Nat, j ≤ f.nS ∧ iv = .int .i64 j ∧ wr.ownsRow w.heap.size 9 1 v j (sv ((s.slots.take j).map (·.name))) ∧ wr.heap[w.heap.size]? = some (.cells #[.slice f.aS f.nS f.cS, .slice f.aR f.nR f.cR, .slice f.aP f.nP f.cP, .slice f.aG f.nG f.cG, .slice f.aL f.nL f.cL] 28) ∧ Below w.heap.size w wr) (fun _ iv _ => f.nS - (intOf iv).toNat)
      case atStart => exact ⟨0, by omega, rfl, World.ownsRow_nil _ _ _ _, b0, hbt⟩
      case round =>
        clear b0 hbt h
        obtain ⟨j, hj, rfl, hown, b0, hbt⟩ := hrel
        have c0 := blk_cell (j := 0) b0
        simp only [List.getElem?_toArray, List.getElem?_cons_zero, List.getElem?_cons_succ] at c0
        by_cases hjn : j < f.nS
        · have hjl : j < s.slots.length := by rw [HLL.out]; exact hjn
          obtain ⟨ad, r, hA, hab, hr1, hR, hcell⟩ := ((h0.below hbt).slots).at_ (by omega) hjn hjl
          have x0 := hcell 0 (.string (strOf s.slots[j].name)) (by obtain ⟨rfl, hok, _⟩ := hR; rfl)
          rw [Nat.add_zero] at x0
          rw [hA] at c0
          have d1 : decide ((j : Int) < (f.nS : Int)) = true := by simp; omega
          have d2 : decide (j < f.nS) = true := by simp; omega
          have HT := Lib.hid (take_map_snoc (·.name) hjl)
          generalize s.slots[j] = x at *
          clear hcell hR hA
          obtain ⟨A5, c5, rfl, _⟩ := own_rdT (l := (s.slots.take j).map (·.name)) hown
          have hbs := hbt.size
          go_wp2_with (at_builtin; refine wpList_app _ _ elStr (hown.alloc _) (Rd.one wr (.string (strOf x.name)) 9) (one_str _) (by omega) (by omega) (by simp; omega) rfl rfl rfl rfl ?_; intro v2 w2 hown2 hg2 hat2; obtain ⟨A6, c6, rfl, _⟩ := own_rd hown2)
          have b2 := blk_grown (blk_below b0 (below_new rfl)) hg2 (fun e => own_blk_ne hown b0 (by decide) _ e.symm rfl)
          have hb2 : Below w.heap.size w w2 := (hbt.alloc hbs _).grown hg2 (by simp; omega) (own_lt hown)
          go_roundw
          case rel => exact ⟨j + 1, by omega, by go_num, by rw [HT.out, sv_append]; exact hown2, b2, hb2⟩
          case measure => simp [intOf]; omega
        · obtain rfl : j = f.nS := by omega
          have d1 : decide ((f.nS : Int) < (f.nS : Int)) = false := by simp
          rw [List.take_of_length_le (by rw [HLL.out]; omega)] at hown
          have HL2 : Hid ((s.slots.map (·.name)).length = f.nS) := by show _ = _; rw [List.length_map, HLL.out]
          go_wp2_with fail
          go_ret
          exact ⟨_, rfl, by rw [HL2.out]; exact hown, hbt⟩
    · by_cases h3 : k = 3
      · subst h3
        clear h1
        clear h2
        obtain ⟨hnl, hml, hll⟩ : f.nR ≤ f.cR ∧ f.cR ≤ 9223372036854775807 ∧ s.rooms.length = f.nR := ⟨h.rooms.le, h.rooms.max, h.rooms.len (by omega)⟩
        have HLL := Lib.hid hll
        clear hll
        have hbX : f.nR ≤ 5864062014805 := HSZ.out.2.1
        rw [show Sc.names s 3 = s.rooms.map (·.name) from rfl]
        go_enter Tryz.func56, Tryz.ntmps56
        go_wp2_with fail
        rw [HVV1.out]
        clear HVV1
        go_loopw [5, 8] (fun v iv wr => ∃ j : Nat, j ≤ f.nR ∧ iv = .int .i64 j ∧ wr.ownsRow w.heap.size 9 1 v j (sv ((s.rooms.take j).map (·.name))) ∧ wr.heap[w.heap.size]? = some (.cells #[.slice f.aS f.nS f.cS, .slice f.aR f.nR f.cR, .slice f.aP f.nP f.cP, .slice f.aG f.nG f.cG, .slice f.aL f.nL f.cL] 28) ∧ Below w.heap.size w wr) (fun _ iv _ => f.nR - (intOf iv).toNat)
        case atStart => exact ⟨0, by omega, rfl, World.ownsRow_nil _ _ _ _, b0, hbt⟩
        case round =>
          clear b0 hbt h
          obtain ⟨j, hj, rfl, hown, b0, hbt⟩ := hrel
          have c1 := blk_cell (j := 1) b0
          simp only [List.getElem?_toArray, List.getElem?_cons_zero, List.getElem?_cons_succ] at c1
          by_cases hjn : j < f.nR
          · have hjl : j < s.rooms.length := by rw [HLL.out]; exact hjn
            obtain ⟨ad, r, hA, hab, hr1, hR, hcell⟩ := ((h0.below hbt).rooms).at_ (by omega) hjn hjl
            have x0 := hcell 0 (.string (strOf s.rooms[j].name)) (by obtain ⟨_, _, rfl, _, hok, _⟩ := hR; rfl)
            rw [Nat.add_zero] at x0
            rw [hA] at c1
            have d1 : decide ((j : Int) < (f.nR : Int)) = true := by simp; omega
            have d2 : decide (j < f.nR) = true := by simp; omega
            have HT := Lib.hid (take_map_snoc (·.name) hjl)
            generalize s.rooms[j] = x at *
            clear hcell hR hA
            obtain ⟨A5, c5, rfl, _⟩ := own_rdT (l := (s.rooms.take j).map (·.name)) hown
            have hbs := hbt.size
            go_wp2_with (at_builtin; refine wpList_app _ _ elStr (hown.alloc _) (Rd.one wr (.string (strOf x.name)) 9) (one_str _) (by omega) (by omega) (by simp; omega) rfl rfl rfl rfl ?_; intro v2 w2 hown2 hg2 hat2; obtain ⟨A6, c6, rfl, _⟩ := own_rd hown2)
            have b2 := blk_grown (blk_below b0 (below_new rfl)) hg2 (fun e => own_blk_ne hown b0 (by decide) _ e.symm rfl)
            have hb2 : Below w.heap.size w w2 := (hbt.alloc hbs _).grown hg2 (by simp; omega) (own_lt hown)
            go_roundw
            case rel => exact ⟨j + 1, by omega, by go_num, by rw [HT.out, sv_append]; exact hown2, b2, hb2⟩
            case measure => simp [intOf]; omega
          · obtain rfl : j = f.nR := by omega
            have d1 : decide ((f.nR : Int) < (f.nR : Int)) = false := by simp
            rw [List.take_of_length_le (by rw [HLL.out]; omega)] at hown
            have HL2 : Hid ((s.rooms.map (·.name)).length = f.nR) := by show _ = _; rw [List.length_map, HLL.out]
            go_wp2_with fail
            go_ret
            exact ⟨_, rfl, by rw [HL2.out]; exact hown, hbt⟩
      · by_cases h4 : k = 4
        · subst h4
          clear h1
          clear h2
          clear h3
          obtain ⟨hnl, hml, hll⟩ : f.nP ≤ f.cP ∧ f.cP ≤ 9223372036854775807 ∧ s.people.length = f.nP := ⟨h.people.le, h.people.max, h.people.len (by omega)⟩
          have HLL := Lib.hid hll
          clear hll
          have hbX : f.nP ≤ 5864062014805 := HSZ.out.2.2.1
          rw [show Sc.names s 4 = s.people.map (·.name) from rfl]
          go_enter Tryz.func56, Tryz.ntmps56
          go_wp2_with fail
          rw [HVV1.out]
          clear HVV1
          go_loopw [5, 9] (fun v iv wr => ∃ j : Nat, j ≤ f.nP ∧ iv = .int .i64 j ∧ wr.ownsRow w.heap.size 9 1 v j (sv ((s.people.take j).map (·.name))) ∧ wr.heap[w.heap.size]? = some (.cells #[.slice f.aS f.nS f.cS, .slice f.aR f.nR f.cR, .slice f.aP f.nP f.cP, .slice f.aG f.nG f.cG, .slice f.aL f.nL f.cL] 28) ∧ Below w.heap.size w wr) (fun _ iv _ => f.nP - (intOf iv).toNat)
          case atStart => exact ⟨0, by omega, rfl, World.ownsRow_nil _ _ _ _, b0, hbt⟩
          case round =>
            clear b0 hbt h
            obtain ⟨j, hj, rfl, hown, b0, hbt⟩ := hrel
            have c2 := blk_cell (j := 2) b0
            simp only [List.getElem?_toArray, List.getElem?_cons_zero, List.getElem?_cons_succ] at c2
            by_cases hjn : j < f.nP
            · have hjl : j < s.people.length := by rw [HLL.out]; exact hjn
              obtain ⟨ad, r, hA, hab, hr1, hR, hcell⟩ := ((h0.below hbt).people).at_ (by omega) hjn hjl
              have x0 := hcell 0 (.string (strOf s.people[j].name)) (by obtain ⟨_, _, rfl, _, hok⟩ := hR; rfl)
              rw [Nat.add_zero] at x0
              rw [hA] at c2
              have d1 : decide ((j : Int) < (f.nP : Int)) = true := by simp; omega
              have d2 : decide (j < f.nP) = true := by simp; omega
              have HT := Lib.hid (take_map_snoc (·.name) hjl)
              generalize s.people[j] = x at *
              clear hcell hR hA
              obtain ⟨A5, c5, rfl, _⟩ := own_rdT (l := (s.people.take j).map (·.name)) hown
              have hbs := hbt.size
              go_wp2_with (at_builtin; refine wpList_app _ _ elStr (hown.alloc _) (Rd.one wr (.string (strOf x.name)) 9) (one_str _) (by omega) (by omega) (by simp; omega) rfl rfl rfl rfl ?_; intro v2 w2 hown2 hg2 hat2; obtain ⟨A6, c6, rfl, _⟩ := own_rd hown2)
              have b2 := blk_grown (blk_below b0 (below_new rfl)) hg2 (fun e => own_blk_ne hown b0 (by decide) _ e.symm rfl)
              have hb2 : Below w.heap.size w w2 := (hbt.alloc hbs _).grown hg2 (by simp; omega) (own_lt hown)
              go_roundw
              case rel => exact ⟨j + 1, by omega, by go_num, by rw [HT.out, sv_append]; exact hown2, b2, hb2⟩
              case measure => simp [intOf]; omega
            · obtain rfl : j = f.nP := by omega
              have d1 : decide ((f.nP : Int) < (f.nP : Int)) = false := by simp
              rw [List.take_of_length_le (by rw [HLL.out]; omega)] at hown
              have HL2 : Hid ((s.people.map (·.name)).length = f.nP) := by show _ = _; rw [List.length_map, HLL.out]
              go_wp2_with fail
              go_ret
              exact ⟨_, rfl, by rw [HL2.out]; exact hown, hbt⟩
        · by_cases h5 : k = 5
          · subst h5
            clear h1
            clear h2
            clear h3
            clear h4
            obtain ⟨hnl, hml, hll⟩ : f.nG ≤ f.cG ∧ f.cG ≤ 9223372036854775807 ∧ s.groups.length = f.nG := ⟨h.groups.le, h.groups.max, h.groups.len (by omega)⟩
            have HLL := Lib.hid hll
            clear hll
            have hbX : f.nG ≤ 5864062014805 := HSZ.out.2.2.2.1
            rw [show Sc.names s 5 = s.groups.map (·.name) from rfl]
            go_enter Tryz.func56, Tryz.ntmps56
            go_wp2_with fail
            rw [HVV1.out]
            clear HVV1
            go_loopw [5, 10] (fun v iv wr => ∃ j : Nat, j ≤ f.nG ∧ iv = .int .i64 j ∧ wr.ownsRow w.heap.size 9 1 v j (sv ((s.groups.take j).map (·.name))) ∧ wr.heap[w.heap.size]? = some (.cells #[.slice f.aS f.nS f.cS, .slice f.aR f.nR f.cR, .slice f.aP f.nP f.cP, .slice f.aG f.nG f.cG, .slice f.aL f.nL f.cL] 28) ∧ Below w.heap.size w wr) (fun _ iv _ => f.nG - (intOf iv).toNat)
            case atStart => exact ⟨0, by omega, rfl, World.ownsRow_nil _ _ _ _, b0, hbt⟩
            case round =>
              clear b0 hbt h
              obtain ⟨j, hj, rfl, hown, b0, hbt⟩ := hrel
              have c3 := blk_cell (j := 3) b0
              simp only [List.getElem?_toArray, List.getElem?_cons_zero, List.getElem?_cons_succ] at c3
              by_cases hjn : j < f.nG
              · have hjl : j < s.groups.length := by rw [HLL.out]; exact hjn
                obtain ⟨ad, r, hA, hab, hr1, hR, hcell⟩ := ((h0.below hbt).groups).at_ (by omega) hjn hjl
                have x0 := hcell 0 (.string (strOf s.groups[j].name)) (by obtain ⟨rfl, hok, _⟩ := hR; rfl)
                rw [Nat.add_zero] at x0
                rw [hA] at c3
                have d1 : decide ((j : Int) < (f.nG : Int)) = true := by simp; omega
                have d2 : decide (j < f.nG) = true := by simp; omega
                have HT := Lib.hid (take_map_snoc (·.name) hjl)
                generalize s.groups[j] = x at *
                clear hcell hR hA
                obtain ⟨A5, c5, rfl, _⟩ := own_rdT (l := (s.groups.take j).map (·.name)) hown
                have hbs := hbt.size
                go_wp2_with (at_builtin; refine wpList_app _ _ elStr (hown.alloc _) (Rd.one wr (.string (strOf x.name)) 9) (one_str _) (by omega) (by omega) (by simp; omega) rfl rfl rfl rfl ?_; intro v2 w2 hown2 hg2 hat2; obtain ⟨A6, c6, rfl, _⟩ := own_rd hown2)
                have b2 := blk_grown (blk_below b0 (below_new rfl)) hg2 (fun e => own_blk_ne hown b0 (by decide) _ e.symm rfl)
                have hb2 : Below w.heap.size w w2 := (hbt.alloc hbs _).grown hg2 (by simp; omega) (own_lt hown)
                go_roundw
                case rel => exact ⟨j + 1, by omega, by go_num, by rw [HT.out, sv_append]; exact hown2, b2, hb2⟩
                case measure => simp [intOf]; omega
              · obtain rfl : j = f.nG := by omega
                have d1 : decide ((f.nG : Int) < (f.nG : Int)) = false := by simp
                rw [List.take_of_length_le (by rw [HLL.out]; omega)] at hown
                have HL2 : Hid ((s.groups.map (·.name)).length = f.nG) := by show _ = _; rw [List.length_map, HLL.out]
                go_wp2_with fail
                go_ret
                exact ⟨_, rfl, by rw [HL2.out]; exact hown, hbt⟩
          · by_cases h6 : k = 6
            · subst h6
              clear h1
              clear h2
              clear h3
              clear h4
              clear h5
              obtain ⟨V2, hV⟩ : ∃ V2, V2 = V1.alloc (.cells #[.string ⟨#[100, 97, 121, 48]⟩, .string ⟨#[100, 97, 121, 49]⟩, .string ⟨#[100, 97, 121, 50]⟩, .string ⟨#[100, 97, 121, 51]⟩, .string ⟨#[100, 97, 121, 52]⟩, .string ⟨#[100, 97, 121, 53]⟩, .string ⟨#[100, 97, 121, 54]⟩] 9) := ⟨_, rfl⟩
              have b2 := blk_new hV
              have hb := below_new hV
              replace h := (h.below hb).more hb.size
              replace b0 := blk_below b0 hb
              replace hbt := hbt.trans (hb.mono hbt.size)
              clear hb
              have HSV2 : Hid (V2.heap.size = V1.heap.size + 1) := by show V2.heap.size = _; rw [hV, World.size_alloc]
              have HVV2 := Lib.hid hV.symm
              clear hV
              rw [← HVV1.out] at HVV2
              rw [HSV1.out] at b2
              clear HSV2
              go_enter Tryz.func56, Tryz.ntmps56
              go_wp2_with fail
              rw [HVV2.out]
              go_ret
              exact ⟨_, rfl, own_blk (n := 7) b2 rfl rfl (by omega) (by omega), hbt⟩
            · by_cases h7 : k = 7
              · subst h7
                clear h1
                clear h2
                clear h3
                clear h4
                clear h5
                clear h6
                obtain ⟨V2, hV⟩ : ∃ V2, V2 = V1.alloc (.cells #[.string ⟨#[104, 111, 117, 115, 101, 48]⟩, .string ⟨#[104, 111, 117, 115, 101, 49]⟩, .string ⟨#[104, 111, 117, 115, 101, 50]⟩, .string ⟨#[104, 111, 117, 115, 101, 51]⟩, .string ⟨#[104, 111, 117, 115, 101, 52]⟩, .string ⟨#[104, 111, 117, 115, 101, 53]⟩, .string ⟨#[104, 111, 117, 115, 101, 54]⟩, .string ⟨#[104, 111, 117, 115, 101, 55]⟩] 9) := ⟨_, rfl⟩
                have b2 := blk_new hV
                have hb := below_new hV
                replace h := (h.below hb).more hb.size
                replace b0 := blk_below b0 hb
                replace hbt := hbt.trans (hb.mono hbt.size)
                clear hb
                have HSV2 : Hid (V2.heap.size = V1.heap.size + 1) := by show V2.heap.size = _; rw [hV, World.size_alloc]
                have HVV2 := Lib.hid hV.symm
                clear hV
                rw [← HVV1.out] at HVV2
                rw [HSV1.out] at b2
                clear HSV2
                go_enter Tryz.func56, Tryz.ntmps56
                go_wp2_with fail
                rw [HVV2.out]
                go_ret
                exact ⟨_, rfl, own_blk (n := 8) b2 rfl rfl (by omega) (by omega), hbt⟩
              · have HN : Hid (Sc.names s k = []) := by show _ = _; unfold Sc.names; rw [if_neg h1, if_neg h2, if_neg h3, if_neg h4, if_neg h5, if_neg h6, if_neg h7]
                rw [HN.out]
                go_enter Tryz.func56, Tryz.ntmps56
                have d1 : (k == 1) = false := by simp; omega
                have d2 : (k == 2) = false := by simp; omega
                have d3 : (k == 3) = false := by simp; omega
                have d4 : (k == 4) = false := by simp; omega
                have d5 : (k == 5) = false := by simp; omega
                have d6 : (k == 6) = false := by simp; omega
                have d7 : (k == 7) = false := by simp; omega
                clear h1 h2 h3 h4 h5 h6 h7
                go_wp2_with fail
                rw [HVV1.out]
                go_ret
                exact ⟨_, rfl, World.ownsRow_nil _ _ _ _, hbt⟩

end Go.Proofs.YtojbjaklngdlcaaGreatDoor
