/- Contracts of package word: what each function of words and headers answers. -/
import Derived.Test.YtlkfbmebeodbmaaProg
import Derived.Test.YtlkfbmebeodbmaaMem
import Derived.Test.YtlkfbmebeodbmaaThr
import Derived.WalkSpells
import Derived.Outline
import Derived.Deep.QuietTactic
import Derived.BigQuiet
set_option linter.unusedVariables false
namespace Go.Proofs.Ytlkfbmebeodbmaa
open Go.RowKit Go.Thr

theorem wraps_u64 (n : Int) (h₀ : 0 ≤ n) (h₁ : n < 2 ^ 64) : IntKind.u64.wrap n = n := by
  simp only [IntKind.wrap, IntKind.bits, IntKind.signed]; simp; omega
theorem wraps_i64 (n : Int) (h₀ : 0 ≤ n) (h₁ : n < 2 ^ 63) : IntKind.i64.wrap n = n := by rw [IntKind.wrap_i64]; omega
theorem u64_and15 {x : Int} (h₀ : 0 ≤ x) (h₁ : x < 18446744073709551616) : bits .and .u64 x 15 = x % 16 := bits_mask .u64 64 (by decide) wraps_u64 4 (by decide) x h₀ (by omega)
theorem i64_and3 {x : Int} (h₀ : 0 ≤ x) (h₁ : x < 9223372036854775808) : bits .and .i64 x 3 = x % 4 := bits_mask .i64 63 (by decide) wraps_i64 2 (by decide) x h₀ (by omega)
theorem i64_and1 {x : Int} (h₀ : 0 ≤ x) (h₁ : x < 9223372036854775808) : bits .and .i64 x 1 = x % 2 := bits_mask .i64 63 (by decide) wraps_i64 1 (by decide) x h₀ (by omega)
theorem i64_and20 {x : Int} (h₀ : 0 ≤ x) (h₁ : x < 9223372036854775808) : bits .and .i64 x 1048575 = x % 1048576 := bits_mask .i64 63 (by decide) wraps_i64 20 (by decide) x h₀ (by omega)
theorem i64_or3 {x y : Int} (h₀ : 0 ≤ y) (h₁ : y % 8 = 0) (h₂ : y < 9223372036854775808) (h₃ : 0 ≤ x) (h₄ : x < 8) : bits .or .i64 x y = x + y := by
  obtain ⟨a, rfl⟩ := Int.eq_ofNat_of_zero_le h₃
  obtain ⟨b, rfl⟩ := Int.eq_ofNat_of_zero_le h₀
  have e : bits .or .i64 (a : Int) (b : Int) = bits .or .i64 (b : Int) (a : Int) := by
    rw [(bits_nat .i64 63 (by decide) wraps_i64 a b (by omega) (by omega)).2, (bits_nat .i64 63 (by decide) wraps_i64 b a (by omega) (by omega)).2, Nat.or_comm]
  rw [e, bits_join .i64 63 (by decide) wraps_i64 3 _ _ h₀ (by omega) (by omega) h₃ (by omega) (by omega)]; omega
theorem i64_or23 {x y : Int} (h₀ : 0 ≤ y) (h₁ : y % 8388608 = 0) (h₂ : y < 9223372036854775808) (h₃ : 0 ≤ x) (h₄ : x < 8388608) : bits .or .i64 x y = x + y := by
  obtain ⟨a, rfl⟩ := Int.eq_ofNat_of_zero_le h₃
  obtain ⟨b, rfl⟩ := Int.eq_ofNat_of_zero_le h₀
  have e : bits .or .i64 (a : Int) (b : Int) = bits .or .i64 (b : Int) (a : Int) := by
    rw [(bits_nat .i64 63 (by decide) wraps_i64 a b (by omega) (by omega)).2, (bits_nat .i64 63 (by decide) wraps_i64 b a (by omega) (by omega)).2, Nat.or_comm]
  rw [e, bits_join .i64 63 (by decide) wraps_i64 23 _ _ h₀ (by omega) (by omega) h₃ (by omega) (by omega)]; omega

theorem ret_i {k : IntKind} {a b : Int} (h : a = b) : Ending.returned (.int k a) = .returned (.int k b) := by rw [h]
theorem ret_u {k : IntKind} {a b : Int} (h : a = b) : Ending.returned (.int k a) = .returned (.int k b) := by rw [h]
theorem ret_b {a b : Bool} (h : a = b) : Ending.returned (.bool a) = .returned (.bool b) := by rw [h]

theorem fits_any (n : Int) (w : World) : Calls Try.prog 60 #[.int .i64 n] w fun e w' => e = .returned (.bool (decide (-576460752303423488 ≤ n ∧ n ≤ 576460752303423487))) ∧ w = w' := by
  go_enter Try.func60, Try.ntmps60
  go_wp2
  · have h : -576460752303423488 ≤ n := by assumption
    go_ret
    exact ⟨ret_b (by simp [h]), rfl⟩
  · have h : n < -576460752303423488 := by assumption
    go_ret
    exact ⟨ret_b (by simp; omega), rfl⟩

theorem none_any (w : World) : Calls Try.prog 59 #[] w fun e w' => e = .returned (.int .u64 4) ∧ w = w' := by
  go_enter Try.func59, Try.ntmps59
  go_wp2
  go_ret
  exact ⟨rfl, rfl⟩

theorem tag_any (x : Int) (w : World) (h0 : 0 ≤ x) (h1 : x < 18446744073709551616) : Calls Try.prog 44 #[.int .u64 x] w fun e w' => e = .returned (.int .i64 (tg x)) ∧ w = w' := by
  have H := Lib.hid (u64_and15 h0 h1)
  go_enter Try.func44, Try.ntmps44
  go_wp2
  go_ret
  refine ⟨ret_i ?_, rfl⟩
  rw [H.out]; unfold wrap64 tg; omega

theorem value_any (x : Int) (w : World) (h0 : 0 ≤ x) (h1 : x < 18446744073709551616) : Calls Try.prog 32 #[.int .u64 x] w fun e w' => e = .returned (.int .i64 (vl x)) ∧ w = w' := by
  go_enter Try.func32, Try.ntmps32
  go_wp2
  go_ret
  refine ⟨ret_i ?_, rfl⟩
  unfold wrap64 vl; split <;> omega

/-- A header. -/
structure Hd where
  kind : Int
  size : Int
  tree : Int
  neg : Bool
abbrev Hd.cs (h : Hd) : List Value := [.int .i64 h.kind, .int .i64 h.size, .int .i64 h.tree, .bool h.neg]
abbrev Hd.val (h : Hd) : Value := .agg #[.int .i64 h.kind, .int .i64 h.size, .int .i64 h.tree, .bool h.neg]
/-- The word of a tag and a value. -/
def ofW (t n : Int) : Int := if 0 ≤ t ∧ t ≤ 7 ∧ -576460752303423488 ≤ n ∧ n ≤ 576460752303423487 then mkw t n else 4

theorem of_any (t n : Int) (w : World) (ht : -9223372036854775808 ≤ t ∧ t ≤ 9223372036854775807) (hn : -9223372036854775808 ≤ n ∧ n ≤ 9223372036854775807) :
    Calls Try.prog 46 #[.int .i64 t, .int .i64 n] w fun e w' => e = .returned (.int .u64 (ofW t n)) ∧ w = w' := by
  by_cases h0 : t < 0
  · have e : ofW t n = 4 := by unfold ofW; rw [if_neg (by omega)]
    rw [e]; clear e
    go_enter Try.func46, Try.ntmps46
    go_wp2_with (first | (go_at_call 59; refine (none_any _).mono ?_; rintro e w' ⟨rfl, rfl⟩) | (go_at_call 60; refine (fits_any _ _).mono ?_; rintro e w' ⟨rfl, rfl⟩))
    go_ret
    exact ⟨rfl, rfl⟩
  · by_cases h7 : 7 < t
    · have e : ofW t n = 4 := by unfold ofW; rw [if_neg (by omega)]
      rw [e]; clear e
      go_enter Try.func46, Try.ntmps46
      go_wp2_with (first | (go_at_call 59; refine (none_any _).mono ?_; rintro e w' ⟨rfl, rfl⟩) | (go_at_call 60; refine (fits_any _ _).mono ?_; rintro e w' ⟨rfl, rfl⟩))
      go_ret
      exact ⟨rfl, rfl⟩
    · by_cases hf : -576460752303423488 ≤ n ∧ n ≤ 576460752303423487
      · have e : ofW t n = mkw t n := by unfold ofW; rw [if_pos (by omega)]
        have hd : decide (-576460752303423488 ≤ n ∧ n ≤ 576460752303423487) = true := by simpa using hf
        have H : Hid (bits .or .u64 (IntKind.u64.wrap (IntKind.u64.wrap n * 16)) t = mkw t n) := by
          refine Lib.hid ?_
          have e1 : IntKind.u64.wrap (IntKind.u64.wrap n * 16) = n * 16 % 18446744073709551616 := by simp [IntKind.wrap, IntKind.bits, IntKind.signed]; omega
          rw [e1, bits_join .u64 64 (by decide) wraps_u64 4 (n * 16 % 18446744073709551616) t (by omega) (by omega) (by omega) (by omega) (by omega) (by omega)]
          unfold mkw; omega
        rw [e]; clear e hf
        go_enter Try.func46, Try.ntmps46
        go_wp2_with (first | (go_at_call 59; refine (none_any _).mono ?_; rintro e w' ⟨rfl, rfl⟩) | (go_at_call 60; refine (fits_any _ _).mono ?_; rintro e w' ⟨rfl, rfl⟩))
        go_ret
        exact ⟨ret_u (by rw [H.out]), rfl⟩
      · have e : ofW t n = 4 := by unfold ofW; rw [if_neg (by omega)]
        have hd : decide (-576460752303423488 ≤ n ∧ n ≤ 576460752303423487) = false := by simpa using hf
        rw [e]; clear e hf
        go_enter Try.func46, Try.ntmps46
        go_wp2_with (first | (go_at_call 59; refine (none_any _).mono ?_; rintro e w' ⟨rfl, rfl⟩) | (go_at_call 60; refine (fits_any _ _).mono ?_; rintro e w' ⟨rfl, rfl⟩))
        go_ret
        exact ⟨rfl, rfl⟩

theorem within_any (n bits : Int) (w : World) (hb : bits = 20) : Calls Try.prog 58 #[.int .i64 n, .int .i64 bits] w fun e w' => e = .returned (.bool (decide (0 ≤ n ∧ n < 1048576))) ∧ w = w' := by
  subst hb
  go_enter Try.func58, Try.ntmps58
  go_wp2
  · have h : 0 ≤ n := by assumption
    go_ret
    exact ⟨ret_b (by simp [h]), rfl⟩
  · have h : n < 0 := by assumption
    go_ret
    exact ⟨ret_b (by simp; omega), rfl⟩

/-- A header's word. -/
def mkHd (h : Hd) : Int := if 0 ≤ h.kind ∧ h.kind ≤ 3 ∧ 0 ≤ h.size ∧ h.size < 1048576 ∧ 0 ≤ h.tree ∧ h.tree < 1048576 then mkw 6 (h.kind + h.size * 8 + h.tree * 8388608 + if h.neg then 4 else 0) else 4

theorem i64_or4 {x : Int} (h₀ : 0 ≤ x) (h₁ : x % 8 < 4) (h₂ : x < 9223372036854775000) : bits .or .i64 x 4 = x + 4 := by
  obtain ⟨a, rfl⟩ := Int.eq_ofNat_of_zero_le h₀
  have e := (bits_nat .i64 63 (by decide) wraps_i64 a 4 (by omega) (by omega)).2
  have hn : a ||| 4 = a + 4 := by
    have h8 : a = 2 ^ 3 * (a / 8) + a % 8 := by omega
    have hr : a % 8 < 4 := by omega
    have hr4 : a % 8 ||| 4 = a % 8 + 4 := by
      have : a % 8 = 0 ∨ a % 8 = 1 ∨ a % 8 = 2 ∨ a % 8 = 3 := by omega
      rcases this with h | h | h | h <;> rw [h] <;> rfl
    calc a ||| 4 = (2 ^ 3 * (a / 8) + a % 8) ||| 4 := by rw [← h8]
      _ = (2 ^ 3 * (a / 8) ||| a % 8) ||| 4 := by rw [Nat.two_pow_add_eq_or_of_lt (by omega) (a / 8)]
      _ = 2 ^ 3 * (a / 8) ||| (a % 8 + 4) := by rw [Nat.or_assoc, hr4]
      _ = 2 ^ 3 * (a / 8) + (a % 8 + 4) := by rw [Nat.two_pow_add_eq_or_of_lt (by omega) (a / 8)]
      _ = a + 4 := by omega
  rw [show ((4 : Int)) = ((4 : Nat) : Int) from rfl, e, hn]; simp

set_option maxHeartbeats 400000 in
theorem make_any (k z t : Int) (g : Bool) (w : World) : Calls Try.prog 43 #[.agg #[.int .i64 k, .int .i64 z, .int .i64 t, .bool g]] w fun e w' => e = .returned (.int .u64 (mkHd ⟨k, z, t, g⟩)) ∧ Only w w' := by
  by_cases hk : 0 ≤ k ∧ k ≤ 3
  · obtain ⟨hk0, hk1⟩ := hk
    by_cases hz : 0 ≤ z ∧ z < 1048576
    · have hzd : decide (0 ≤ z ∧ z < 1048576) = true := by simpa using hz
      obtain ⟨hz0, hz1⟩ := hz
      by_cases ht : 0 ≤ t ∧ t < 1048576
      · have htd : decide (0 ≤ t ∧ t < 1048576) = true := by simpa using ht
        obtain ⟨ht0, ht1⟩ := ht
        have e0 := i64_or3 (x := k) (y := z * 8) (by omega) (by omega) (by omega) (by omega) (by omega)
        have e1 := i64_or23 (x := k + z * 8) (y := t * 8388608) (by omega) (by omega) (by omega) (by omega) (by omega)
        have e2 := i64_or4 (x := k + z * 8 + t * 8388608) (by omega) (by omega) (by omega)
        go_enter Try.func43, Try.ntmps43
        go_wp2_with (first | (go_at_call 59; refine (none_any _).mono ?_; rintro e w' ⟨rfl, rfl⟩) | (go_at_call 58; refine (within_any _ _ _ rfl).mono ?_; rintro e w' ⟨rfl, rfl⟩) | (go_at_call 46; refine (of_any _ _ _ (by omega) (by omega)).mono ?_; rintro e w' ⟨rfl, rfl⟩))
        · have hg : g = true := by assumption
          go_ret
          refine ⟨ret_i ?_, (Kept.refl _ _).alloc _⟩
          unfold mkHd ofW
          rw [if_pos (by omega), if_pos ⟨hk0, hk1, hz0, hz1, ht0, ht1⟩]; simp only [hg, if_true]
        · have hg : g = false := by assumption
          go_ret
          refine ⟨ret_i ?_, (Kept.refl _ _).alloc _⟩
          unfold mkHd ofW
          rw [if_pos (by omega), if_pos ⟨hk0, hk1, hz0, hz1, ht0, ht1⟩]; simp [hg]
      · have htd : decide (0 ≤ t ∧ t < 1048576) = false := by simpa using ht
        have e : mkHd ⟨k, z, t, g⟩ = 4 := by unfold mkHd; rw [if_neg (fun h => ht ⟨h.2.2.2.2.1, h.2.2.2.2.2⟩)]
        rw [e]; clear e ht
        go_enter Try.func43, Try.ntmps43
        go_wp2_with (first | (go_at_call 59; refine (none_any _).mono ?_; rintro e w' ⟨rfl, rfl⟩) | (go_at_call 58; refine (within_any _ _ _ rfl).mono ?_; rintro e w' ⟨rfl, rfl⟩))
        go_ret
        exact ⟨rfl, (Kept.refl _ _).alloc _⟩
    · have hzd : decide (0 ≤ z ∧ z < 1048576) = false := by simpa using hz
      have e : mkHd ⟨k, z, t, g⟩ = 4 := by unfold mkHd; rw [if_neg (fun h => hz ⟨h.2.2.1, h.2.2.2.1⟩)]
      rw [e]; clear e hz
      go_enter Try.func43, Try.ntmps43
      go_wp2_with (first | (go_at_call 59; refine (none_any _).mono ?_; rintro e w' ⟨rfl, rfl⟩) | (go_at_call 58; refine (within_any _ _ _ rfl).mono ?_; rintro e w' ⟨rfl, rfl⟩))
      go_ret
      exact ⟨rfl, (Kept.refl _ _).alloc _⟩
  · have e : mkHd ⟨k, z, t, g⟩ = 4 := by unfold mkHd; rw [if_neg (fun h => hk ⟨h.1, h.2.1⟩)]
    rw [e]; clear e
    by_cases hk0 : k < 0
    · clear hk
      go_enter Try.func43, Try.ntmps43
      go_wp2_with (first | (go_at_call 59; refine (none_any _).mono ?_; rintro e w' ⟨rfl, rfl⟩) | (go_at_call 58; refine (within_any _ _ _ rfl).mono ?_; rintro e w' ⟨rfl, rfl⟩))
      go_ret
      exact ⟨rfl, (Kept.refl _ _).alloc _⟩
    · have hk3 : 3 < k := by omega
      clear hk
      go_enter Try.func43, Try.ntmps43
      go_wp2_with (first | (go_at_call 59; refine (none_any _).mono ?_; rintro e w' ⟨rfl, rfl⟩) | (go_at_call 58; refine (within_any _ _ _ rfl).mono ?_; rintro e w' ⟨rfl, rfl⟩))
      go_ret
      exact ⟨rfl, (Kept.refl _ _).alloc _⟩

/-- The header that a word is. -/
def hdOf (x : Int) : Hd := ⟨vl x % 4, vl x / 8 % 1048576, vl x / 8388608 % 1048576, (vl x / 4 % 2 == 1)⟩
def isHd (x : Int) : Bool := decide (tg x = 6 ∧ 0 ≤ vl x ∧ vl x < 8796093022208)
def rdHd (x : Int) : Hd := if isHd x then hdOf x else ⟨0, 0, 0, false⟩

theorem ret_hd {a b : Hd} {x y : Bool} (h : a = b) (h' : x = y) : Ending.returned (.tuple #[a.val, .bool x]) = .returned (.tuple #[b.val, .bool y]) := by rw [h, h']

theorem rdHd_no {x : Int} (h : ¬ (tg x = 6 ∧ 0 ≤ vl x ∧ vl x < 8796093022208)) : isHd x = false ∧ rdHd x = ⟨0, 0, 0, false⟩ := by
  have e : isHd x = false := by simp only [isHd, decide_eq_false_iff_not]; exact h
  exact ⟨e, by simp [rdHd, e]⟩
theorem rdHd_yes {x : Int} (h : tg x = 6 ∧ 0 ≤ vl x ∧ vl x < 8796093022208) : isHd x = true ∧ rdHd x = hdOf x := by
  have e : isHd x = true := by simp only [isHd, decide_eq_true_eq]; exact h
  exact ⟨e, by simp [rdHd, e]⟩

theorem read_any (x : Int) (w : World) (h0 : 0 ≤ x) (h1 : x < 18446744073709551616) : Calls Try.prog 48 #[.int .u64 x] w fun e w' => e = .returned (.tuple #[(rdHd x).val, .bool (isHd x)]) ∧ Only w w' := by
  by_cases hg : tg x = 6 ∧ 0 ≤ vl x ∧ vl x < 8796093022208
  · obtain ⟨e1, e2⟩ := rdHd_yes hg
    rw [e1, e2]; unfold hdOf
    obtain ⟨h6, hn0, hn1⟩ := hg
    clear e1 e2
    have ht : ((tg x) == 6) = true := by simp [h6]
    have ht' : ((tg x) != 6) = false := by simp [h6]
    clear h6
    generalize hn : vl x = n at hn0 hn1
    have Hn := Lib.hid hn
    clear hn
    have a0 := i64_and3 (x := n) (by omega) (by omega)
    have a1 := i64_and1 (x := n / 4) (by omega) (by omega)
    have a2 := i64_and20 (x := n / 8) (by omega) (by omega)
    have a3 := i64_and20 (x := n / 8388608) (by omega) (by omega)
    have a4 : (n / 8796093022208 == 0) = true := by simp; omega
    have a5 : (n / 8796093022208 != 0) = false := by simp; omega
    go_enter Try.func48, Try.ntmps48
    go_wp2_with (first | (go_at_call 32; refine (value_any _ _ (by omega) (by omega)).mono ?_; rintro e w' ⟨rfl, rfl⟩; rw [Hn.out]) | (go_at_call 44; refine (tag_any _ _ (by omega) (by omega)).mono ?_; rintro e w' ⟨rfl, rfl⟩))
    refine bodyPost_ret (v := .tuple #[.agg #[.int .i64 (n % 4), .int .i64 (n / 8 % 1048576), .int .i64 (n / 8388608 % 1048576), .bool (n / 4 % 2 == 1)], .bool true]) (by simp [results, Try.results48, go_sem]) rfl ⟨rfl, (Kept.refl _ _).alloc _⟩
  · obtain ⟨e1, e2⟩ := rdHd_no hg
    rw [e1, e2]; clear e1 e2
    have tgr := tg_range x
    have vlr := vl_range x h0 h1
    by_cases h6 : tg x = 6
    · have ht : ((tg x) == 6) = true := by simp [h6]
      have ht' : ((tg x) != 6) = false := by simp [h6]
      by_cases hn : vl x < 0
      · clear hg h6
        go_enter Try.func48, Try.ntmps48
        go_wp2_with (first | (go_at_call 32; refine (value_any _ _ (by omega) (by omega)).mono ?_; rintro e w' ⟨rfl, rfl⟩) | (go_at_call 44; refine (tag_any _ _ (by omega) (by omega)).mono ?_; rintro e w' ⟨rfl, rfl⟩))
        exact bodyPost_ret (v := .tuple #[.agg #[.int .i64 0, .int .i64 0, .int .i64 0, .bool false], .bool false]) (by simp [results, Try.results48, go_sem]) rfl ⟨rfl, (Kept.refl _ _).alloc _⟩
      · have hn1 : 8796093022208 ≤ vl x := by omega
        have a4 : (vl x / 8796093022208 == 0) = false := by simp; omega
        have a5 : (vl x / 8796093022208 != 0) = true := by simp; omega
        have hn0 : 0 ≤ vl x := by omega
        clear hg h6 hn
        go_enter Try.func48, Try.ntmps48
        go_wp2_with (first | (go_at_call 32; refine (value_any _ _ (by omega) (by omega)).mono ?_; rintro e w' ⟨rfl, rfl⟩) | (go_at_call 44; refine (tag_any _ _ (by omega) (by omega)).mono ?_; rintro e w' ⟨rfl, rfl⟩))
        exact bodyPost_ret (v := .tuple #[.agg #[.int .i64 0, .int .i64 0, .int .i64 0, .bool false], .bool false]) (by simp [results, Try.results48, go_sem]) rfl ⟨rfl, (Kept.refl _ _).alloc _⟩
    · have ht : ((tg x) == 6) = false := by simp [h6]
      have ht' : ((tg x) != 6) = true := by simp [h6]
      clear hg h6
      go_enter Try.func48, Try.ntmps48
      go_wp2_with (first | (go_at_call 32; refine (value_any _ _ (by omega) (by omega)).mono ?_; rintro e w' ⟨rfl, rfl⟩) | (go_at_call 44; refine (tag_any _ _ (by omega) (by omega)).mono ?_; rintro e w' ⟨rfl, rfl⟩))
      exact bodyPost_ret (v := .tuple #[.agg #[.int .i64 0, .int .i64 0, .int .i64 0, .bool false], .bool false]) (by simp [results, Try.results48, go_sem]) rfl ⟨rfl, (Kept.refl _ _).alloc _⟩

/-- How many of an object's words are words of terms. -/
def fieldsOf (h : Hd) : Int := if h.kind = 0 then 2 else if h.kind = 1 then h.size else 0
theorem fields_eq (k z t : Int) (g : Bool) (w : World) : Calls Try.prog 65 #[.agg #[.int .i64 k, .int .i64 z, .int .i64 t, .bool g]] w fun e w' => e = .returned (.int .i64 (fieldsOf ⟨k, z, t, g⟩)) ∧ w.alloc (.cells #[.int .i64 k, .int .i64 z, .int .i64 t, .bool g] 36) = w' := by
  unfold fieldsOf
  by_cases h0 : k = 0
  · subst h0
    go_enter Try.func65, Try.ntmps65
    go_wp2
    go_ret
    exact ⟨rfl, rfl⟩
  · by_cases h1 : k = 1
    · subst h1
      go_enter Try.func65, Try.ntmps65
      go_wp2
      go_ret
      exact ⟨rfl, rfl⟩
    · simp only [h0, h1, if_false]
      have b0 : (k == 0) = false := by simp [h0]
      have b1 : (k == 1) = false := by simp [h1]
      clear h0 h1
      go_enter Try.func65, Try.ntmps65
      go_wp2
      go_ret
      exact ⟨rfl, rfl⟩

theorem fields_any (h : Hd) (w : World) : Calls Try.prog 65 #[h.val] w fun e w' => e = .returned (.int .i64 (fieldsOf h)) ∧ Only w w' := by
  obtain ⟨k, z, t, g⟩ := h
  unfold fieldsOf
  by_cases h0 : k = 0
  · subst h0
    go_enter Try.func65, Try.ntmps65
    go_wp2
    go_ret
    exact ⟨rfl, (Kept.refl _ _).alloc _⟩
  · by_cases h1 : k = 1
    · subst h1
      go_enter Try.func65, Try.ntmps65
      go_wp2
      go_ret
      exact ⟨rfl, (Kept.refl _ _).alloc _⟩
    · simp only [h0, h1, if_false]
      have b0 : (k == 0) = false := by simp [h0]
      have b1 : (k == 1) = false := by simp [h1]
      clear h0 h1
      go_enter Try.func65, Try.ntmps65
      go_wp2
      go_ret
      exact ⟨rfl, (Kept.refl _ _).alloc _⟩
theorem mkHd_bad {k n t : Int} {g : Bool} (h : ¬ (0 ≤ k ∧ k ≤ 3 ∧ 0 ≤ n ∧ n < 1048576 ∧ 0 ≤ t ∧ t < 1048576)) : mkHd ⟨k, n, t, g⟩ = 4 := by unfold mkHd; rw [if_neg h]
theorem mkHd_good {k n t : Int} {g : Bool} (h : 0 ≤ k ∧ k ≤ 3 ∧ 0 ≤ n ∧ n < 1048576 ∧ 0 ≤ t ∧ t < 1048576) : mkHd ⟨k, n, t, g⟩ = mkw 6 (k + n * 8 + t * 8388608 + if g then 4 else 0) := by unfold mkHd; rw [if_pos h]
theorem mkHd_tag {k n t : Int} {g : Bool} (h : 0 ≤ k ∧ k ≤ 3 ∧ 0 ≤ n ∧ n < 1048576 ∧ 0 ≤ t ∧ t < 1048576) : tg (mkHd ⟨k, n, t, g⟩) = 6 := by rw [mkHd_good h]; exact tg_mkw (by omega) (by omega)
theorem mkHd_range (h : Hd) : 0 ≤ mkHd h ∧ mkHd h < 18446744073709551616 := by
  unfold mkHd; split
  · exact mkw_range _ _
  · decide

end Go.Proofs.Ytlkfbmebeodbmaa
