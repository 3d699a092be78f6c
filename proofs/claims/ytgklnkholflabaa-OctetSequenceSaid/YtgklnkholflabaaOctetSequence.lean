/-
  OctetSequence, walked.
-/
import Derived.Test.YtgklnkholflabaaArgs
import Derived.Test.YtgklnkholflabaaTrodS
import Derived.Test.YtgklnkholflabaaGrow
import Derived.Test.YtgklnkholflabaaCodec
namespace Go.Proofs.Ytgklnkholflabaa
open Go.RowKit Go.ChangeShapes Go.WideShapes
set_option linter.unusedVariables false
set_option linter.unusedSimpArgs false

/-- The slice value '.slice A n c' reads as the list of integer slices ls, all below block B; none is too great for a machine. -/
def RdII (w : World) (B : Nat) (A : Option Addr) (n c : Nat) (ls : List (List Int)) : Prop :=
  ls.length = n ∧ ∃ vs, Rd w B A n c vs ∧ ∀ (i : Nat) (l : List Int), ls[i]? = some l → ∃ A' c', vs[i]? = some (.slice A' l.length c') ∧ RdI w B A' l.length c' l ∧ l.length ≤ 17592186044416

section
variable {w w' : World} {B B' : Nat} {A : Option Addr} {n c : Nat} {ls : List (List Int)}
theorem RdII.below (h : RdII w B A n c ls) (hb : Below B w w') : RdII w' B A n c ls := by
  obtain ⟨hl, vs, h1, h2⟩ := h
  exact ⟨hl, vs, h1.below hb, fun i l hi => by obtain ⟨A', c', hv, hr, hc⟩ := h2 i l hi; exact ⟨A', c', hv, hr.below hb, hc⟩⟩
theorem RdII.more (h : RdII w B A n c ls) (hB : B ≤ B') : RdII w B' A n c ls := by
  obtain ⟨hl, vs, h1, h2⟩ := h
  exact ⟨hl, vs, h1.more hB, fun i l hi => by obtain ⟨A', c', hv, hr, hc⟩ := h2 i l hi; exact ⟨A', c', hv, hr.more hB, hc⟩⟩
theorem RdII.len (h : RdII w B A n c ls) : ls.length = n := h.1
theorem RdII.le (h : RdII w B A n c ls) : n ≤ c := by obtain ⟨_, vs, h1, _⟩ := h; exact h1.le
theorem RdII.max (h : RdII w B A n c ls) : c ≤ 9223372036854775807 := by obtain ⟨_, vs, h1, _⟩ := h; exact h1.max
theorem RdII.at_ (h : RdII w B A n c ls) {k : Nat} (hk : k < n) (hl : k < ls.length) :
    ∃ ad A' c', A = some ad ∧ ad.block < B ∧ w.cell? (ad.add k) = some (.slice A' ls[k].length c') ∧ RdI w B A' ls[k].length c' ls[k] ∧ ls[k].length ≤ 17592186044416 := by
  obtain ⟨_, vs, h1, h2⟩ := h
  obtain ⟨ad, u, e, hb, hu, hc⟩ := h1.at_ hk
  obtain ⟨A', c', hv, hr, hz⟩ := h2 k ls[k] (List.getElem?_eq_getElem hl)
  rw [hv] at hu
  cases hu
  exact ⟨ad, A', c', e, hb, hc, hr, hz⟩
end

section
variable {H : Type} {enc : TypeId × Value → H} {W : World} {cs : List Value} {r : Reach} {b0 : Nat} {v : Value} {d : DataW H} {p : List MemPlace}
theorem trs_ints (h : TrS enc Try.prog W 34 cs) : ∃ A n c l, cs = [.slice A n c] ∧ RdI W W.heap.size A n c l ∧ n ≤ 17592186044416 := by
  obtain ⟨A, n, c, l, h1, h2⟩ := tr_ints h.tr
  obtain ⟨A', n', c', h3, h4, h5, h6, _⟩ := h.slice Try.underlying34 (by decide +kernel)
  rw [h1] at h3
  injection h3 with h3
  injection h3 with e1 e2 e3
  subst e1 e2 e3
  have hb : Try.prog.bytesOf 3 = 8 := by kernel_rfl
  rw [hb] at h6
  unfold reachBytes at h6
  exact ⟨A, n, c, l, h1, h2, by omega⟩
theorem trs_intss (h : TrS enc Try.prog W 43 cs) : ∃ A n c ls, cs = [.slice A n c] ∧ RdII W W.heap.size A n c ls := by
  obtain ⟨A, n, c, els, h1, h2, h3, h4, h5, h6, h7⟩ := h.list 1 (fun cs (p : Option Addr × Nat × Nat × List Int) => cs = [.slice p.1 p.2.1 p.2.2.1] ∧ RdI W W.heap.size p.1 p.2.1 p.2.2.1 p.2.2.2 ∧ p.2.1 ≤ 17592186044416) Try.underlying43 (by kernel_rfl) (by omega)
    (fun cs h => by obtain ⟨A, n, c, l, e1, e2, e3⟩ := trs_ints h; exact ⟨(A, n, c, l), e1, e2, e3⟩)
  have hfl : ∀ els : List (List Value × (Option Addr × Nat × Nat × List Int)), (∀ x ∈ els, x.1 = [.slice x.2.1 x.2.2.1 x.2.2.2.1]) → els.flatMap (·.1) = els.map (fun x => Value.slice x.2.1 x.2.2.1 x.2.2.2.1) := fun els he => by
    induction els with
    | nil => rfl
    | cons x r ih => rw [List.flatMap_cons, ih (fun y hy => he y (List.mem_cons_of_mem _ hy)), he x (List.mem_cons_self ..)]; rfl
  rw [hfl els (fun x hx => (h6 x hx).2.1)] at h7
  refine ⟨A, n, c, els.map (·.2.2.2.2), h1, by simp [h2], els.map (fun x => Value.slice x.2.1 x.2.2.1 x.2.2.2.1), ⟨by simp [h2], h3, h4, h7⟩, fun i l hi => ?_⟩
  rw [List.getElem?_map] at hi
  obtain ⟨x, hx, rfl⟩ := Option.map_eq_some_iff.1 hi
  obtain ⟨_, _, q1, q2⟩ := h6 x (List.mem_of_getElem? hx)
  have hl := q1.len
  refine ⟨x.2.1, x.2.2.2.1, ?_, ?_, by omega⟩
  · rw [List.getElem?_map, hx, hl]; rfl
  · rw [hl]; exact q1
theorem arg_intss (hv : Value.okWide Try.prog W r b0 43 v) (h : TrS enc Try.prog W 43 v.cells.toList) : ∃ A n c l, v = .slice A n c ∧ RdII W W.heap.size A n c l := by
  obtain ⟨a0, len0, cap0, rfl⟩ := okWide_slice Try.underlying43 hv
  obtain ⟨A, n, c, l, h1, h2⟩ := trs_intss h
  have e : [Value.slice a0 len0 cap0] = [.slice A n c] := h1
  injection e with e
  exact ⟨A, n, c, l, e, h2⟩
end

namespace Vi
/-- How many integers the slices hold. -/
def total (ls : List (List Int)) : Nat := (ls.map List.length).sum
theorem total_app (a b : List (List Int)) : total (a ++ b) = total a + total b := by simp [total]
theorem total_one (x : List Int) : total [x] = x.length := by simp [total]
theorem total_take (ls : List (List Int)) (k : Nat) : total (ls.take k) ≤ total ls := by
  conv => rhs; rw [← List.take_append_drop k ls, total_app]
  omega
theorem total_mem {ls : List (List Int)} {k : Nat} (h : k < ls.length) : ls[k].length ≤ total ls := by
  have := total_take ls (k + 1)
  rw [List.take_succ_eq_append_getElem h, total_app, total_one] at this
  omega
def puts (ls : List (List Int)) : List UInt8 := ls.flatMap putL
theorem puts_app (a b : List (List Int)) : puts (a ++ b) = puts a ++ puts b := List.flatMap_append
theorem puts_one (x : List Int) : puts [x] = putL x := by simp [puts]
theorem puts_len {ls : List (List Int)} (h : ∀ x ∈ ls, okIs x ∧ x.length ≤ 9223372036854775807) : (puts ls).length ≤ 10 * total ls + 10 * ls.length := by
  induction ls with
  | nil => simp [puts]
  | cons x r ih =>
    have h1 := h x (List.mem_cons_self ..)
    have h2 := putL_len h1.1 h1.2
    have h3 := ih (fun z hz => h z (List.mem_cons_of_mem _ hz))
    have e1 : puts (x :: r) = putL x ++ puts r := by simp [puts]
    have e2 : total (x :: r) = x.length + total r := by simp [total]
    rw [e1, e2, List.length_append, List.length_cons]
    omega
end Vi

set_option maxRecDepth 100000 in
set_option maxHeartbeats 4000000 in
theorem octetSequence_any (A : Option Addr) (m c : Nat) (ls : List (List Int)) (B : Option Addr) (n d : Nat) (l : List UInt8) (w : World) (hx : RdII w w.heap.size A m c ls) (h : RdB w w.heap.size B n d l) :
    Calls Try.prog 10 #[.slice A m c, .slice B n d] w fun e w' => e = .returned (.bool true) ∧ Below w.heap.size w w' := by
  have h1 := h.max
  have h2 := h.le
  have h3 := hx.max
  have h4 := hx.le
  have hbt := Below.refl w.heap.size w
  go_enter Try.func10, Try.ntmps10
  go_wp2_with fail
  refine (live_any w).mono ?_
  rintro e w1 ⟨rfl, hb⟩
  replace h := (h.below hb).more hb.size
  replace hx := (hx.below hb).more hb.size
  replace hbt := hbt.trans (hb.mono hbt.size)
  clear hb
  have hlen := Lib.hid hx.len
  go_wp2_with fail
  go_loop [5, 6] (fun s i => ∃ k : Nat, k ≤ m ∧ k ≤ 20 ∧ i = .int .i64 k ∧ s = .int .i64 (Vi.total (ls.take k)) ∧ Vi.total (ls.take k) ≤ k * 17592186044416) (fun _ i => 20 - (intOf i).toNat)
  case atStart => exact ⟨0, by omega, by omega, rfl, rfl, by simp [Vi.total]⟩
  case round =>
    obtain ⟨k, hk, hk2, rfl, rfl, htot⟩ := hrel
    by_cases hlt : k < m ∧ k < 20
    · obtain ⟨hlt, hkm⟩ := hlt
      have e1 : k < ls.length := by rw [hlen.out]; exact hlt
      obtain ⟨ad, A1, c1, rfl, _, hc1, hr1, hz1⟩ := hx.at_ hlt e1
      have d1 : decide ((k : Int) < (m : Int)) = true := by simp; omega
      have d2 : decide ((k : Int) < (20 : Int)) = true := by simp; omega
      have HT : Hid (Vi.total (ls.take (k + 1)) = Vi.total (ls.take k) + ls[k].length) := by
        show _ = _
        rw [List.take_succ_eq_append_getElem e1, Vi.total_app, Vi.total_one]
      generalize ls[k].length = x at *
      generalize Vi.total (ls.take k) = s at *
      go_wp2_with fail
      go_round
      case rel => exact ⟨k + 1, by omega, by omega, by go_num, by rw [HT.out]; go_num, by rw [HT.out]; omega⟩
      case measure => simp [intOf]; omega
    · have hgo : decide ((k : Int) < (m : Int)) = false ∨ (decide ((k : Int) < (m : Int)) = true ∧ decide ((k : Int) < (20 : Int)) = false) := by
        by_cases h4 : k < m
        · right; simp; omega
        · left; simp; omega
      by_cases hm10 : 10 < m
      · have d3 : decide ((10 : Int) < (m : Int)) = true := by simp; omega
        have d3' : decide (10 < m) = true := by simp; omega
        rcases hgo with hgo | ⟨hgo, hgo'⟩
        · go_wp2_with fail
          all_goals (go_ret; exact ⟨ret_bool rfl, hbt⟩)
        · go_wp2_with fail
          all_goals (go_ret; exact ⟨ret_bool rfl, hbt⟩)
      · have d3 : decide (10 < m) = false := by simp; omega
        obtain rfl : k = m := by omega
        have d4 : decide (k < k) = false := by simp
        clear hgo hlt
        rw [List.take_of_length_le (by rw [hlen.out]; omega)] at htot ⊢
        by_cases h100 : 100 < Vi.total ls
        · have d5 : decide (100 < Vi.total ls) = true := by simp; omega
          go_wp2_with fail
          go_ret
          exact ⟨ret_bool rfl, hbt⟩
        have d5 : decide (100 < Vi.total ls) = false := by simp; omega
        go_wp2_with fail
        refine (few_any B n d w1 (by omega)).mono ?_
        rintro e w' ⟨rfl, rfl⟩
        by_cases hfew : ¬ n ≤ 3000
        · rw [decide_eq_false hfew]
          go_wp2_with fail
          go_ret
          exact ⟨ret_bool rfl, hbt⟩
        have hfew : n ≤ 3000 := by omega
        rw [decide_eq_true hfew]
        have hs1 := run_str h
        have hown0 : (w1.alloc (.cells #[] 5)).ownsRow w.heap.size 5 1 (.slice (some ⟨w1.heap.size, 0, none⟩) 0 0) 0 [] := World.ownsRow_lit w1 #[] 0 hbt.size (by unfold maxLen; omega) rfl
        go_wp2_with (at_builtin; refine wpList_app _ _ elB hown0 (h.alloc (Nat.le_refl _) _) (bv_one l) (by omega) (by omega) (by have := hbt.size; simp; omega) rfl rfl rfl rfl ?_; intro v' w2 hown hg2 hat2)
        simp only [Nat.zero_add, List.nil_append] at hown
        have hb : Below w1.heap.size w1 w2 := below_of_alloc_grown hg2 (fun g hg => by cases hg; exact Nat.le_refl _)
        clear hown0 hg2 hat2
        replace h := (h.below hb).more hb.size
        replace hx := (hx.below hb).more hb.size
        replace hbt := hbt.trans (hb.mono hbt.size)
        clear hb
        have hoks : ∀ x ∈ ls, okIs x ∧ x.length ≤ 9223372036854775807 := fun x hxm => by
          obtain ⟨i, hi, rfl⟩ := List.getElem_of_mem hxm
          obtain ⟨_, _, _, _, _, _, q, _⟩ := hx.at_ (by rw [← hlen.out]; exact hi) hi
          exact ⟨q.2, by have := q.le; have := q.max; omega⟩
        have HOK := Lib.hid hoks
        have hpl : ∀ j, (Vi.puts (ls.take j)).length ≤ 1100 := fun j => by
          have e1 := Vi.puts_len (ls := ls.take j) (fun x hx => hoks x (List.mem_of_mem_take hx))
          have e2 := Vi.total_take ls j
          have e3 : (ls.take j).length ≤ k := by rw [List.length_take, hlen.out]; omega
          omega
        have HPL := Lib.hid hpl
        clear hoks hpl
        generalize hTT : Vi.total ls = T at *
        have HTT := Lib.hid hTT
        clear hTT
        go_wp2_with fail
        go_loopw [8, 9] (fun v i wr => ∃ j : Nat, j ≤ k ∧ i = .int .i64 j ∧ wr.ownsRow w.heap.size 5 1 v (n + (Vi.puts (ls.take j)).length) (bv (l ++ Vi.puts (ls.take j))) ∧ Below w2.heap.size w2 wr) (fun _ i _ => k - (intOf i).toNat)
        case atStart => exact ⟨0, by omega, rfl, by simpa [Vi.puts] using hown, Below.refl _ _⟩
        case round =>
          obtain ⟨j, hj, rfl, hown', hb'⟩ := hrel
          clear hown
          have hpj := HPL.out j
          by_cases hjk : j < k
          · have e1 : j < ls.length := by rw [hlen.out]; exact hjk
            obtain ⟨ad, A1, c1, rfl, _, hc1, hr1, hz1⟩ := (hx.below hb').at_ hjk e1
            replace hr1 := hr1.more hb'.size
            have hq := Vi.total_mem e1
            rw [HTT.out] at hq
            have HP1 : Hid (Vi.puts (ls.take (j + 1)) = Vi.puts (ls.take j) ++ Vi.putL ls[j]) := by
              show _ = _
              rw [List.take_succ_eq_append_getElem e1, Vi.puts_app, Vi.puts_one]
            have d1 : decide ((j : Int) < (k : Int)) = true := by simp; omega
            obtain ⟨x, hxe⟩ : ∃ x, x = ls[j] := ⟨_, rfl⟩
            rw [← hxe] at hc1 hr1 hz1 hq HP1
            clear hxe
            generalize hxl : x.length = xl at *
            obtain ⟨A5, c5, rfl, q5⟩ := own_rdB hown'
            go_wp2_with fail
            refine (putInts_any A5 (n + (Vi.puts (ls.take j)).length) c5 (l ++ Vi.puts (ls.take j)) A1 xl c1 x wr q5 hr1 (by omega) (by omega)).mono ?_
            rintro e w3 ⟨v3, rfl, hown3, hb3⟩
            go_wp2
            go_roundw
            case rel =>
              refine ⟨j + 1, by omega, by go_num, ?_, hb'.trans (hb3.mono hb'.size)⟩
              rw [HP1.out, List.length_append, ← List.append_assoc, ← Nat.add_assoc]
              exact own_mono hown3 (Nat.le_trans hbt.size hb'.size)
            case measure => simp [intOf]; omega
          · obtain rfl : j = k := by omega
            have d1 : decide ((j : Int) < (j : Int)) = false := by simp
            rw [List.take_of_length_le (by rw [hlen.out]; omega)] at hown' hpj
            replace h := (h.below hb').more hb'.size
            replace hx := (hx.below hb').more hb'.size
            replace hbt := hbt.trans (hb'.mono hbt.size)
            clear hb'
            obtain ⟨pz, hpz⟩ : ∃ pz, pz = Vi.puts ls := ⟨_, rfl⟩
            rw [← hpz] at hown' hpj
            have HPZ := Lib.hid hpz
            clear hpz
            obtain ⟨K, hK⟩ : ∃ K, K = pz.length := ⟨_, rfl⟩
            rw [← hK] at hown' hpj
            have HK := Lib.hid hK
            clear hK
            obtain ⟨A5, c5, rfl, q5⟩ := own_rdB hown'
            have hm5 := q5.max
            have hl5 := q5.le
            clear hown'
            go_wp2_with fail
            obtain ⟨wa, hwa⟩ : ∃ wa, wa = wr := ⟨_, rfl⟩
            rw [← hwa] at h hx hbt q5 ⊢
            clear hwa
            go_loopw [10, 11] (fun a i wr => ∃ i' : Nat, i' ≤ j ∧ i = .int .i64 i' ∧ a = .int .i64 ((n + (Vi.puts (ls.take i')).length : Nat) : Int) ∧ Below wa.heap.size wa wr) (fun _ i _ => j - (intOf i).toNat)
            case atStart => exact ⟨0, by omega, rfl, by simp [Vi.puts], Below.refl _ _⟩
            case round =>
              obtain ⟨i, hi, rfl, rfl, hb'⟩ := hrel
              have hpi := HPL.out i
              by_cases hij : i < j
              · have e1 : i < ls.length := by rw [hlen.out]; exact hij
                obtain ⟨ad, A1, c1, rfl, _, hc1, hr1, hz1⟩ := (hx.below hb').at_ hij e1
                replace hr1 := hr1.more hb'.size
                have hq := Vi.total_mem e1
                rw [HTT.out] at hq
                have hok := (HOK.out ls[i] (List.getElem_mem e1)).1
                have HP1 : Hid (Vi.puts (ls.take (i + 1)) = Vi.puts (ls.take i) ++ Vi.putL ls[i]) := by
                  show _ = _
                  rw [List.take_succ_eq_append_getElem e1, Vi.puts_app, Vi.puts_one]
                have HG : Hid (Vi.getL (l ++ pz) ((n + (Vi.puts (ls.take i)).length : Nat) : Int) (T : Int) = (ls[i], ((n + (Vi.puts (ls.take i)).length : Nat) : Int) + (Vi.putL ls[i]).length, 0)) := by
                  show _ = _
                  refine Vi.getL_put (r := Vi.puts (ls.drop (i + 1))) ?_ (by omega) (by omega) hok
                  have hln := h.len
                  rw [HPZ.out, ← hln, List.drop_append, List.drop_of_length_le (by omega), Nat.add_sub_cancel_left, List.nil_append]
                  conv => lhs; rw [show ls = ls.take i ++ (ls[i] :: ls.drop (i + 1)) by rw [List.getElem_cons_drop, List.take_append_drop], Vi.puts_app]
                  rw [List.take_left' (by rw [List.length_take]; omega), List.drop_left]
                  show Vi.puts ([ls[i]] ++ _) = _
                  rw [Vi.puts_app, Vi.puts_one]
                have d1 : decide ((i : Int) < (j : Int)) = true := by simp; omega
                obtain ⟨x, hxe⟩ : ∃ x, x = ls[i] := ⟨_, rfl⟩
                rw [← hxe] at hc1 hr1 hz1 hq HP1 HG hok
                clear hxe
                obtain ⟨S, hS⟩ : ∃ S, S = (Vi.puts (ls.take i)).length := ⟨_, rfl⟩
                rw [← hS] at HG hpi ⊢
                have HS := Lib.hid hS
                clear hS
                have hpl := Vi.putL_len hok (by omega)
                obtain ⟨L, hL⟩ : ∃ L, L = (Vi.putL x).length := ⟨_, rfl⟩
                rw [← hL] at HG hpl
                have HL := Lib.hid hL
                clear hL
                obtain ⟨xl, hxl⟩ : ∃ xl, xl = x.length := ⟨_, rfl⟩
                rw [← hxl] at hc1 hr1 hz1 hq hpl
                have HXL := Lib.hid hxl
                clear hxl
                go_wp2_with fail
                refine (getInts_any A5 (n + K) c5 (l ++ pz) ((n + S : Nat) : Int) (T : Int) wr ((q5.below hb').more hb'.size) (by omega) (by omega)).mono ?_
                rintro e w5 ⟨v6, rfl, ho, hb⟩
                rw [HG.out] at ho ⊢
                dsimp only at ho ⊢
                rw [← HXL.out] at ho
                obtain ⟨A7, c7, rfl, q7⟩ := own_rdI ho hok
                clear ho
                replace hr1 := (hr1.below hb).more hb.size
                replace hb' := hb'.trans (hb.mono hb'.size)
                have hc2 := (hb.cell (World.block_lt_of_cell? _ _ hc1)).trans hc1
                go_wp2_with fail
                refine (ints_any A7 A1 xl c7 xl c1 x x w5 q7 hr1).mono ?_
                rintro e w6 ⟨rfl, mm, hw6⟩
                have hb6 : Below w5.heap.size w5 w6 := by rw [hw6]; exact below_drewN' (Below.refl _ _) _
                clear hw6 mm
                rw [decide_eq_true rfl]
                replace hb' := hb'.trans (hb6.mono hb'.size)
                go_wp2_with fail
                go_roundw
                case rel =>
                  refine ⟨i + 1, by omega, by go_num, ?_, hb'⟩
                  rw [HP1.out, List.length_append, ← HS.out, ← HL.out]
                  go_num
                case measure => simp [intOf]; omega
              · obtain rfl : i = j := by omega
                have d1 : decide ((i : Int) < (i : Int)) = false := by simp
                rw [List.take_of_length_le (by rw [hlen.out]; omega)] at hpi ⊢
                rw [← HPZ.out, ← HK.out]
                replace h := (h.below hb').more hb'.size
                replace hbt := hbt.trans (hb'.mono hbt.size)
                clear hb'
                go_wp2_with fail
                refine (putInt_any B n d l 1 wr h (by omega) (by omega)).mono ?_
                rintro e w7 ⟨v7, rfl, ho, hb⟩
                have hw0 := hbt.size
                have hp1 : (Vi.putI 1).length ≤ 10 := putI_len (by omega)
                replace h := (h.below hb)
                replace hbt := hbt.trans (hb.mono hbt.size)
                replace ho := own_mono ho (Nat.le_refl wr.heap.size)
                obtain ⟨M, hM⟩ : ∃ M, M = n + (Vi.putI 1).length := ⟨_, rfl⟩
                rw [← hM] at ho
                have hM2 : M ≤ 3010 := by omega
                have hlq : (l ++ Vi.putI 1).length = M := by rw [List.length_append, h.len, hM]
                clear hM
                generalize l ++ Vi.putI 1 = lq at ho hlq
                obtain ⟨A8, c8, rfl, q8⟩ := own_rdB ho
                have hm8 := q8.max
                have hl8 := q8.le
                have hbs := hb.size
                clear q8 hb
                have HLQ := Lib.hid hlq
                clear hlq
                obtain ⟨ws, hws⟩ : ∃ ws, ws = wr.heap.size := ⟨_, rfl⟩
                rw [← hws] at ho h hbs hw0
                clear hws
                go_wp2_with fail
                go_loopw [16] (fun i wr => ∃ (i' : Nat) (lr : List UInt8), i' ≤ M ∧ i = .int .i64 i' ∧ lr.length = M ∧ wr.ownsRow ws 5 1 (.slice A8 M c8) M (bv lr) ∧ RdB wr ws B n d l ∧ Below w.heap.size w wr) (fun i _ => M - (intOf i).toNat)
                case atStart => exact ⟨0, lq, by omega, rfl, HLQ.out, ho, h, hbt⟩
                case round =>
                  obtain ⟨a, lr, ha, rfl, hlr, hor, hrr, hbr⟩ := hrel
                  by_cases haM : a < M
                  · obtain ⟨g, cap, hv, hg1, hg2⟩ := hor.form (by omega)
                    injection hv with ha8 _ hcc
                    subst ha8
                    have hkx : a < lr.length := by omega
                    have hc := (hor.cellAt a (by omega)).trans (show (bv lr)[a]? = some (bcell lr[a]) by simp [bv, hkx])
                    have hf := hor.frozenAt a
                    have hst := fun z : UInt8 => hor.stored a (bcell z)
                    have Hst := Lib.hid hst
                    have HLR := Lib.hid hlr
                    clear hst hlr
                    generalize lr[a] = x at *
                    unfold bcell at hc
                    have hxb := x.toNat_lt
                    have d1 : decide ((a : Int) < (M : Int)) = true := by simp; omega
                    go_wp2_with fail
                    go_roundw
                    case rel =>
                      refine ⟨a + 1, lr.set a (x + 1), by omega, by go_num, by rw [List.length_set]; exact HLR.out, ?_, Rd.setCell hrr (p := ⟨g, a, none⟩) hg1 _, hbr.setCell (p := ⟨g, a, none⟩) (Nat.le_trans hw0 hg1) _⟩
                      have e1 := (Hst.out (x + 1)).1
                      rw [bv_set] at e1
                      unfold bcell at e1
                      rw [UInt8.toNat_add] at e1
                      exact e1
                    case measure => simp [intOf]; omega
                  · have d1 : decide ((a : Int) < (M : Int)) = false := by simp; omega
                    have hs2 := run_str hrr
                    go_wp2_with fail
                    go_ret
                    exact ⟨ret_bool rfl, hbr⟩
end Go.Proofs.Ytgklnkholflabaa
