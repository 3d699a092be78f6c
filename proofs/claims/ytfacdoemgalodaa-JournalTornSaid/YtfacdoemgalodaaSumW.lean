/-
  The walks of the checksum: seal.table, seal.Sum, the reference's step and Sum.
-/
import Derived.Test.YtfacdoemgalodaaProg
import Derived.Test.YtfacdoemgalodaaMem
import Derived.Test.YtfacdoemgalodaaCrc
import Derived.KernelRfl
namespace Go.Proofs.Ytfacdoemgalodaa
open Go.RowKit
set_option linter.unusedVariables false

/-! What the walk's own words come to. -/
theorem bits_stp_odd (n : Nat) (h : n < 4294967296) (ho : n % 2 = 1) : bits .xor .u32 ((n : Int) / 2) 3988292384 = (Crc.stp n : Nat) := by
  have e : ((n : Int) / 2) = ((n / 2 : Nat) : Int) := by omega
  rw [e, show (3988292384 : Int) = ((3988292384 : Nat) : Int) from rfl, u32_xor_nat _ _ (by omega) (by omega)]
  unfold Crc.stp; rw [if_pos ho]
theorem stp_even_int (n : Nat) (ho : ¬ n % 2 = 1) : ((n : Int) / 2) = (Crc.stp n : Nat) := by
  unfold Crc.stp; rw [if_neg ho]; omega

set_option maxHeartbeats 400000 in
theorem step_any (n : Nat) (hn : n < 4294967296) (w : World) :
    Calls Try.prog 72 #[.int .u32 n] w fun e w' => e = .returned (.int .u32 (Crc.stp n : Nat)) ∧ w = w' := by
  by_cases ho : n % 2 = 1
  · have h1 : ((n : Int) % 2 == 1) = true := by rw [beq_iff_eq]; omega
    have H := Lib.hid ho; clear ho
    go_enter Try.func72, Try.ntmps72
    go_wp2
    go_ret
    exact ⟨ret_int (bits_stp_odd n hn H.out), rfl⟩
  · have h1 : ((n : Int) % 2 == 1) = false := by rw [beq_eq_false_iff_ne]; omega
    have H := Lib.hid ho; clear ho
    go_enter Try.func72, Try.ntmps72
    go_wp2
    go_ret
    exact ⟨ret_int (stp_even_int n H.out), rfl⟩

theorem run_take_snoc (l : List UInt8) (k : Nat) (s : Nat) (h : k < l.length) : Crc.run s (l.take (k + 1)) = Crc.upd (Crc.run s (l.take k)) l[k] := by
  rw [List.take_succ_eq_append_getElem h, Crc.run_snoc]

theorem bits_xor_u32 (a b : Nat) (ha : a < 4294967296) (hb : b < 4294967296) : bits .xor .u32 (a : Int) (b : Int) = ((a ^^^ b : Nat) : Int) := u32_xor_nat a b ha hb

set_option maxHeartbeats 1000000 in
theorem rsum_any (A : Option Addr) (n c : Nat) (l : List UInt8) (w : World) (h : RdB w w.heap.size A n c l) :
    Calls Try.prog 60 #[.slice A n c] w fun e w' => e = .returned (.int .u32 (Crc.crc l : Nat)) ∧ w = w' := by
  have hlen := Lib.hid h.len
  have hle := h.le
  have hmax := h.max
  go_enter Try.func60, Try.ntmps60
  go_wp2
  go_loop [3, 8] (fun t i => ∃ k : Nat, k ≤ n ∧ i = .int .i64 k ∧ t = .int .u32 (Crc.run 4294967295 (l.take k) : Nat)) (fun _ i => n - (intOf i).toNat)
  case atStart => exact ⟨0, by omega, rfl, rfl⟩
  case round =>
    obtain ⟨k, hk, rfl, rfl⟩ := hrel
    by_cases hlt : k < n
    · have hl : k < l.length := by have := hlen.out; omega
      obtain ⟨ad, rfl, hblk, hcell⟩ := h.at_ hlt hl
      have hb := Crc.run_lt 4294967295 (l.take k) (by decide)
      have hs := Lib.hid (run_take_snoc l k 4294967295 hl)
      generalize Crc.run 4294967295 (l.take k) = s at hb hs ⊢
      generalize l[k] = x at hcell hs ⊢
      have hx := x.toNat_lt
      have hx2 : x.toNat < 4294967296 := by omega
      have he := bits_xor_u32 s x.toNat hb hx2
      have hsx := Crc.xor_lt32 hb hx2
      go_wp2
      clear he
      go_loop [3, 16] (fun t i => ∃ j : Nat, j ≤ 8 ∧ i = .int .i64 j ∧ t = .int .u32 (Crc.stpN j (s ^^^ x.toNat) : Nat)) (fun _ i => 8 - (intOf i).toNat)
      case atStart => exact ⟨0, by omega, rfl, rfl⟩
      case round =>
        obtain ⟨j, hj, rfl, rfl⟩ := hrel
        have hq := Crc.stpN_lt j _ hsx
        by_cases hlj : j < 8
        · go_wp2_with (go_at_call 72; refine (step_any _ hq _).mono ?_; rintro e w' ⟨rfl, rfl⟩)
          go_round
          case rel => exact ⟨j + 1, by omega, by go_num, by rw [Crc.stpN_succ]⟩
          case measure => simp [intOf]; omega
        · go_wp2
          go_round
          case rel => exact ⟨k + 1, by omega, by go_num, by rw [hs.out, show j = 8 from by omega]; rfl⟩
          case measure => simp [intOf]; omega
    · go_wp2
      go_ret
      refine ⟨ret_int ?_, rfl⟩
      have hlt := Crc.run_lt 4294967295 (l.take k) (by decide)
      have e : l.take k = l := List.take_of_length_le (by have := hlen.out; omega)
      have := bits_xor_u32 _ 4294967295 hlt (by decide)
      rw [e] at this
      simp only [e]
      exact this

/-! The table. -/
def zarr : Array Value := Array.replicate 256 (.int .u32 0)
def tcell (i : Nat) : Value := .int .u32 ((Crc.stpN 8 i : Nat) : Int)
def tabK (k : Nat) : Array Value := (Array.range 256).map fun i => if i < k then tcell i else .int .u32 0
def tabV : Array Value := (Array.range 256).map tcell
theorem zarr_tab : zarr = tabK 0 := by
  unfold zarr tabK
  apply Array.ext
  · simp
  · intro i h1 h2; simp
theorem tab_full : tabK 256 = tabV := by
  unfold tabK tabV
  apply Array.ext
  · simp
  · intro i h1 h2; simp at h1; simp [h1]
theorem tab_size (k : Nat) : (tabK k).size = 256 := by simp [tabK]
theorem tabV_size : tabV.size = 256 := by simp [tabV]
theorem tab_get (k : Nat) (h : k < 256) : (tabK k)[k]? = some (.int .u32 0) := by simp [tabK, h]
theorem tab_set (k : Nat) (h : k < 256) : (tabK k).setIfInBounds k (tcell k) = tabK (k + 1) := by
  unfold tabK
  apply Array.ext
  · simp
  · intro i h1 h2
    simp at h1
    rw [Array.getElem_setIfInBounds (by simpa using h1)]
    by_cases e : k = i
    · subst e; simp
    · simp only [e, if_false, Array.getElem_map, Array.getElem_range]
      by_cases hi : i < k
      · simp [hi, show i < k + 1 by omega]
      · simp [hi, show ¬ i < k + 1 by omega]
theorem tabV_get (i : Nat) (h : i < 256) : tabV[i]? = some (tcell i) := by simp [tabV, h]
theorem tabV_one : tabV.all (·.oneCell') = true := by
  rw [Array.all_eq_true_iff_forall_mem]
  intro v hv
  simp only [tabV, Array.mem_map] at hv
  obtain ⟨i, _, rfl⟩ := hv
  rfl
theorem zero256 (w : World) : (zeroValue 89).run Try.prog w = .ok (.agg zarr) w := by kernel_rfl
theorem info256 : (Try.prog.info? 89).map (·.size) = some 256 := by kernel_rfl

/-- '(n >> 1) ^ (poly & -(n & 1))'. -/
theorem bits_step (n : Nat) (h : n < 4294967296) :
    bits .xor .u32 ((n : Int) / 2) (bits .and .u32 3988292384 ((-(bits .and .u32 (n : Int) 1)) % 4294967296)) = (Crc.stp n : Nat) := by
  have e1 : bits .and .u32 (n : Int) 1 = ((n % 2 : Nat) : Int) := by
    have := u32_and_nat n 1 h (by decide)
    rw [nat_mask1] at this
    exact this
  have e0 : ((n : Int) / 2) = ((n / 2 : Nat) : Int) := by omega
  rw [e1, e0]
  have hp : n % 2 = 0 ∨ n % 2 = 1 := by omega
  rcases hp with hp | hp
  · rw [hp]
    have e2 : (-((0 : Nat) : Int)) % 4294967296 = ((0 : Nat) : Int) := by omega
    rw [e2, show (3988292384 : Int) = ((3988292384 : Nat) : Int) from rfl, u32_and_nat _ _ (by decide) (by decide), u32_xor_nat _ _ (by omega) (by decide)]
    unfold Crc.stp; rw [if_neg (by omega)]; simp
  · rw [hp]
    have e2 : (-((1 : Nat) : Int)) % 4294967296 = ((4294967295 : Nat) : Int) := by omega
    rw [e2, show (3988292384 : Int) = ((3988292384 : Nat) : Int) from rfl, u32_and_nat _ _ (by decide) (by decide), u32_xor_nat _ _ (by omega) (by decide)]
    unfold Crc.stp; rw [if_pos hp]; rfl

set_option maxRecDepth 100000 in
set_option maxHeartbeats 1000000 in
theorem table_any (w : World) :
    Calls Try.prog 63 #[] w fun e w' => e = .returned (.agg tabV) ∧ Below w.heap.size w w' := by
  have hz : ∀ w, (zeroValue 89).run Try.prog w = .ok (.agg (tabK 0)) w := fun w => by rw [← zarr_tab]; exact zero256 w
  go_enter Try.func63, Try.ntmps63
  go_wp2
  clear hz
  go_loopw [4] (fun i wr => ∃ k : Nat, k ≤ 256 ∧ i = .int .i64 k ∧ wr = (w.alloc (.cells (tabK 0) 89)).alloc (.cells (tabK k) 89)) (fun i _ => 256 - (intOf i).toNat)
  case atStart => exact ⟨0, by omega, rfl, rfl⟩
  case round =>
    obtain ⟨k, hk, rfl, rfl⟩ := hrel
    by_cases hlt : k < 256
    · go_wp2
      go_loop [3, 9] (fun n i => ∃ j : Nat, j ≤ 8 ∧ i = .int .i64 j ∧ n = .int .u32 (Crc.stpN j k : Nat)) (fun _ i => 8 - (intOf i).toNat)
      case atStart => exact ⟨0, by omega, rfl, rfl⟩
      case round =>
        obtain ⟨j, hj, rfl, rfl⟩ := hrel
        have hb := Crc.stpN_lt j k (by omega)
        by_cases hlj : j < 8
        · go_wp2
          go_round
          case rel => exact ⟨j + 1, by omega, by go_num, by rw [Crc.stpN_succ, ← bits_step _ hb]⟩
          case measure => simp [intOf]; omega
        · have hg := tab_get k hlt
          have hs := Lib.hid (tab_set k hlt)
          obtain rfl : j = 8 := by omega
          go_wp2
          go_roundw
          case rel => exact ⟨k + 1, by omega, by go_num, by rw [← hs.out]; rfl⟩
          case measure => simp [intOf]; omega
    · obtain rfl : k = 256 := by omega
      rw [tab_full]
      have hsz : ((w.alloc (.cells (tabK 0) 89)).alloc (.cells tabV 89)).heap[w.heap.size]? = some (.cells (tabK 0) 89 (0, 0)) := heap_alloc2_old w _ _
      have hB : Below w.heap.size w (((w.alloc (.cells (tabK 0) 89)).alloc (.cells tabV 89)).setRow w.heap.size tabV) :=
        (((Below.refl _ _).alloc (Nat.le_refl _) _).alloc (by simp) _).trans ⟨rfl, rfl, rfl, by simp, fun k hk => setRow_other _ _ _ _ (by omega)⟩
      have HB := Lib.hid hB
      have HS := Lib.hid hsz
      have hr := setRow_heap _ w.heap.size _ tabV 89 _ hsz
      have HR := Lib.hid hr
      clear hB hsz hr
      go_wp2_with (first
        | refine wpList_load_row rfl 89 _ rfl (w.heap.size + 1) rfl 89 tabV (0, 0) _ (heap_alloc2_new w _ _) Try.underlying89 rfl (by rw [tabV_size]; exact info256) ?_
        | refine wpList_store_row rfl 89 _ _ rfl w.heap.size tabV rfl rfl 89 (tabK 0) HS.out (by rw [tabV_size]; exact info256) (by rw [tabV_size, tab_size]) tabV_one ?_)
      exact bodyPost_ret (results_cell_row rfl _ _ w.heap.size 89 tabV (0, 0) _ rfl HR.out Try.underlying89 rfl (by rw [tabV_size]; exact info256)) rfl ⟨rfl, HB.out⟩

/-- 't[byte(n)^x] ^ (n >> 8)'. -/
theorem bits_upd (s : Nat) (x : UInt8) (hs : s < 4294967296) :
    bits .xor .u32 ((Crc.stpN 8 (s % 256 ^^^ x.toNat) : Nat) : Int) ((s : Int) / 256) = (Crc.upd s x : Nat) := by
  have e0 : ((s : Int) / 256) = ((s / 256 : Nat) : Int) := by omega
  have hx := x.toNat_lt
  have h1 := Crc.stpN_lt 8 (s % 256 ^^^ x.toNat) (Crc.xor_lt32 (by omega) (by omega))
  rw [e0, u32_xor_nat _ _ h1 (by omega), ← Crc.upd_table]

theorem bits_ix (s : Nat) (x : UInt8) : bits .xor .u8 ((s : Int) % 256) (x.toNat : Int) = ((s % 256 ^^^ x.toNat : Nat) : Int) := by
  have e0 : ((s : Int) % 256) = ((s % 256 : Nat) : Int) := by omega
  have hx := x.toNat_lt
  rw [e0, u8_xor_nat _ _ (by omega) (by omega)]

set_option maxRecDepth 100000 in
set_option maxHeartbeats 1000000 in
theorem sum_any (A : Option Addr) (n c : Nat) (l : List UInt8) (w : World) (h : RdB w w.heap.size A n c l) :
    Calls Try.prog 47 #[.slice A n c] w fun e w' => e = .returned (.int .u32 (Crc.crc l : Nat)) ∧ Below w.heap.size w w' := by
  have hlen := Lib.hid h.len
  have hle := h.le
  have hmax := h.max
  have hz : ∀ w, (zeroValue 89).run Try.prog w = .ok (.agg (tabK 0)) w := fun w => by rw [← zarr_tab]; exact zero256 w
  go_enter Try.func47, Try.ntmps47
  go_wp2_with (first
    | (go_at_call 63; refine (table_any _).mono ?_; rintro e w1 ⟨rfl, hb1⟩)
    | refine wpList_store_row rfl 89 _ _ rfl w1.heap.size tabV rfl rfl 89 (tabK 0) (heap_alloc_new w1 _) (by rw [tabV_size]; exact info256) (by rw [tabV_size, tab_size]) tabV_one ?_)
  clear hz
  have hB : Below w.heap.size w ((w1.alloc (.cells (tabK 0) 89)).setRow w1.heap.size tabV) :=
    (hb1.alloc hb1.size _).trans ⟨rfl, rfl, rfl, by simp, fun k hk => setRow_other _ _ _ _ (by have := hb1.size; omega)⟩
  have hR := setRow_heap _ w1.heap.size _ tabV 89 _ (heap_alloc_new w1 (.cells (tabK 0) 89))
  generalize (w1.alloc (.cells (tabK 0) 89)).setRow w1.heap.size tabV = W at hB hR
  have hT : ∀ i, i < 256 → W.cell? ⟨w1.heap.size, i, none⟩ = some (tcell i) := fun i hi => (cell_of_row W _ _ _ _ _ hR).trans (tabV_get i hi)
  have HT := Lib.hid hT
  clear hR hT
  generalize w1.heap.size = g at HT
  clear hb1 w1
  have h := h.below hB
  have HB := Lib.hid hB
  clear hB
  go_loop [4, 10] (fun t i => ∃ k : Nat, k ≤ n ∧ i = .int .i64 k ∧ t = .int .u32 (Crc.run 4294967295 (l.take k) : Nat)) (fun _ i => n - (intOf i).toNat)
  case atStart => exact ⟨0, by omega, rfl, rfl⟩
  case round =>
    obtain ⟨k, hk, rfl, rfl⟩ := hrel
    by_cases hlt : k < n
    · have hl : k < l.length := by have := hlen.out; omega
      obtain ⟨ad, rfl, hblk, hcell⟩ := h.at_ hlt hl
      have hb := Crc.run_lt 4294967295 (l.take k) (by decide)
      have hs := Lib.hid (run_take_snoc l k 4294967295 hl)
      generalize Crc.run 4294967295 (l.take k) = s at hb hs ⊢
      generalize l[k] = x at hcell hs ⊢
      have hx := x.toNat_lt
      have hix : s % 256 ^^^ x.toNat < 256 := Nat.xor_lt_two_pow (n := 8) (by omega) (by omega)
      have hu := Lib.hid (bits_upd s x hb)
      have he := bits_ix s x
      have hc := HT.out _ hix
      unfold tcell at hc
      generalize s % 256 ^^^ x.toNat = q at hix he hc hu
      go_wp2
      go_round
      case rel => exact ⟨k + 1, by omega, by go_num, by rw [hs.out, ← hu.out]⟩
      case measure => simp [intOf]; omega
    · have hsg : IntKind.u32.signed = false := rfl
      go_wp2
      go_ret
      refine ⟨ret_int ?_, HB.out⟩
      have hlt := Crc.run_lt 4294967295 (l.take k) (by decide)
      have e : l.take k = l := List.take_of_length_le (by have := hlen.out; omega)
      have := bits_xor_u32 4294967295 _ (by decide) hlt
      rw [e] at this
      simp only [e]
      refine Eq.trans ?_ (this.trans ?_)
      · rfl
      · rw [Nat.xor_comm]; rfl
end Go.Proofs.Ytfacdoemgalodaa
