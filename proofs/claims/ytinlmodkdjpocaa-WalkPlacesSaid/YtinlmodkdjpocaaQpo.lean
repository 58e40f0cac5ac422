/- Plain numbers: the number of ones of a word, as math/bits.OnesCount64 reckons it. Generic: no program is named. Plain numbers: the last step of OnesCount64. math/bits.OnesCount64. Plain lists: words of bits, and how many are set. Generic: no program is named. Plain lists: symbols level by level, the highest bit first: their ranks. Generic: no program is named. -/
import Derived.Test.YtinlmodkdjpocaaProg
import Derived.WalkKit
import Derived.Lib.Hide
import Derived.Laws.Bits64b
import Derived.Laws.Bits128
set_option linter.unusedVariables false
namespace Go.Proofs.Ytinlmodkdjpocaa

/-- the number of ones among the low k bits -/
def ones : Nat → Nat → Nat
  | 0, _ => 0
  | k + 1, x => x % 2 + ones k (x / 2)
/-- digit by digit at base b, k digits -/
def mapd (b : Nat) (f : Nat → Nat) : Nat → Nat → Nat
  | 0, _ => 0
  | k + 1, x => f (x % b) + b * mapd b f k (x / b)

theorem mapd_add (b : Nat) (f g : Nat → Nat) (k x : Nat) : mapd b f k x + mapd b g k x = mapd b (fun d => f d + g d) k x := by
  induction k generalizing x with
  | zero => rfl
  | succ k ih => simp only [mapd, ← ih]; rw [Nat.mul_add]; omega
theorem mapd_congr (b : Nat) (hb : 0 < b) (f g : Nat → Nat) (h : ∀ d, d < b → f d = g d) (k x : Nat) : mapd b f k x = mapd b g k x := by
  induction k generalizing x with
  | zero => rfl
  | succ k ih => simp only [mapd, ih, h _ (Nat.mod_lt _ hb)]
theorem mapd_comp (b : Nat) (hb : 0 < b) (f g : Nat → Nat) (h : ∀ d, d < b → g d < b) (k x : Nat) : mapd b f k (mapd b g k x) = mapd b (fun d => f (g d)) k x := by
  induction k generalizing x with
  | zero => rfl
  | succ k ih =>
    simp only [mapd]
    have h1 := h _ (Nat.mod_lt x hb)
    rw [Nat.add_mul_mod_self_left, Nat.mod_eq_of_lt h1, Nat.add_mul_div_left _ _ hb, Nat.div_eq_of_lt h1, Nat.zero_add, ih]
theorem mapd_two (b : Nat) (hb : 0 < b) (f : Nat → Nat) (k x : Nat) : mapd b f (2 * k) x = mapd (b * b) (fun d => f (d % b) + b * f (d / b)) k x := by
  induction k generalizing x with
  | zero => rfl
  | succ k ih =>
    rw [show 2 * (k + 1) = 2 * k + 1 + 1 from by omega]
    simp only [mapd]
    rw [ih, Nat.div_div_eq_div_mul, Nat.mod_mul_right_mod, Nat.mod_mul_right_div_self, Nat.mul_add, Nat.mul_assoc, Nat.add_assoc]
/-- digits of an and -/
theorem and_digit (j d e x y : Nat) (hd : d < 2 ^ j) (he : e < 2 ^ j) : (d + 2 ^ j * x) &&& (e + 2 ^ j * y) = (d &&& e) + 2 ^ j * (x &&& y) := by
  have hde : d &&& e < 2 ^ j := Nat.lt_of_le_of_lt Nat.and_le_left hd
  apply Nat.eq_of_testBit_eq
  intro i
  rw [Nat.testBit_and, Nat.add_comm d, Nat.add_comm e, Nat.add_comm (d &&& e), Nat.testBit_two_pow_mul_add _ hd, Nat.testBit_two_pow_mul_add _ he, Nat.testBit_two_pow_mul_add _ hde]
  split <;> rw [Nat.testBit_and]
theorem and_mask (j c : Nat) (hc : c < 2 ^ j) (k x : Nat) : x &&& mapd (2 ^ j) (fun _ => c) k 0 = mapd (2 ^ j) (fun d => d &&& c) k x := by
  induction k generalizing x with
  | zero => simp [mapd]
  | succ k ih =>
    have hp : 0 < 2 ^ j := Nat.pow_pos (by decide)
    simp only [mapd, Nat.zero_div]
    rw [← ih]
    conv => lhs; rw [← Nat.mod_add_div x (2 ^ j)]
    exact and_digit j _ _ _ _ (Nat.mod_lt _ hp) hc
/-- a shift within the digits, and a mask that shuts out what comes over from the next -/
theorem shift_mask (j s c : Nat) (hs : s ≤ j) (hc : c < 2 ^ (j - s)) (k x : Nat) : (x / 2 ^ s) &&& mapd (2 ^ j) (fun _ => c) k 0 = mapd (2 ^ j) (fun d => (d / 2 ^ s) &&& c) k x := by
  have hcj : c < 2 ^ j := Nat.lt_of_lt_of_le hc (Nat.pow_le_pow_right (by decide) (by omega))
  rw [and_mask j c hcj]
  induction k generalizing x with
  | zero => rfl
  | succ k ih =>
    simp only [mapd]
    have hp : 0 < 2 ^ j := Nat.pow_pos (by decide)
    have hps : 0 < 2 ^ s := Nat.pow_pos (by decide)
    have e0 : 2 ^ j = 2 ^ s * 2 ^ (j - s) := by rw [← Nat.pow_add]; congr 1; omega
    have e1 : x / 2 ^ s / 2 ^ j = x / 2 ^ j / 2 ^ s := by rw [Nat.div_div_eq_div_mul, Nat.div_div_eq_div_mul, Nat.mul_comm]
    rw [e1, ih]
    congr 1
    apply Nat.eq_of_testBit_eq
    intro i
    rw [Nat.testBit_and, Nat.testBit_and, Nat.testBit_mod_two_pow, Nat.testBit_div_two_pow, Nat.testBit_div_two_pow, Nat.testBit_mod_two_pow]
    by_cases hi : i < j - s
    · simp [show i < j from by omega, show i + s < j from by omega]
    · have : c.testBit i = false := Nat.testBit_lt_two_pow (Nat.lt_of_lt_of_le hc (Nat.pow_le_pow_right (by decide) (by omega)))
      simp [this]

theorem mapd_lt (b : Nat) (hb : 0 < b) (f : Nat → Nat) (h : ∀ d, d < b → f d < b) (k x : Nat) : mapd b f k x < b ^ k := by
  induction k generalizing x with
  | zero => simp [mapd]
  | succ k ih =>
    simp only [mapd]
    have h1 := h _ (Nat.mod_lt x hb)
    have h2 := ih (x / b)
    have h3 : b * (mapd b f k (x / b) + 1) ≤ b * b ^ k := Nat.mul_le_mul_left b h2
    rw [Nat.pow_succ, Nat.mul_comm (b ^ k) b]
    rw [Nat.mul_add] at h3
    omega
def sumd (b : Nat) (f : Nat → Nat) : Nat → Nat → Nat
  | 0, _ => 0
  | k + 1, x => f (x % b) + sumd b f k (x / b)
theorem sumd_two (b : Nat) (hb : 0 < b) (f : Nat → Nat) (k x : Nat) : sumd b f (2 * k) x = sumd (b * b) (fun d => f (d % b) + f (d / b)) k x := by
  induction k generalizing x with
  | zero => rfl
  | succ k ih =>
    rw [show 2 * (k + 1) = 2 * k + 1 + 1 from by omega]
    simp only [sumd]
    rw [ih, Nat.div_div_eq_div_mul, Nat.mod_mul_right_mod, Nat.mod_mul_right_div_self, Nat.add_assoc]
theorem ones_sumd (k x : Nat) : ones k x = sumd 2 (fun d => d) k x := by
  induction k generalizing x with
  | zero => rfl
  | succ k ih => simp only [ones, sumd, ih]
def p2 (d : Nat) : Nat := d % 2 + d / 2
def p4 (d : Nat) : Nat := p2 (d % 4) + p2 (d / 4)
def p8 (d : Nat) : Nat := p4 (d % 16) + p4 (d / 16)
theorem ones_p8 (x : Nat) : ones 64 x = sumd 256 p8 8 x := by
  rw [ones_sumd, show 64 = 2 * 32 from rfl, sumd_two 2 (by decide), show 32 = 2 * 16 from rfl, sumd_two 4 (by decide), show 16 = 2 * 8 from rfl, sumd_two 16 (by decide)]
  rfl
theorem p4_le : ∀ d, d < 16 → p4 d ≤ 4 := by decide
theorem p8_le (d : Nat) (hd : d < 256) : p8 d ≤ 8 := by
  have h1 := p4_le (d % 16) (by omega)
  have h2 := p4_le (d / 16) (by omega)
  unfold p8; omega
theorem swar1 (x : Nat) : ((x / 2) &&& 0x5555555555555555) + (x &&& 0x5555555555555555) = mapd 4 p2 32 x := by
  have hm : mapd (2 ^ 2) (fun _ => 1) 32 0 = 0x5555555555555555 := by decide
  rw [← hm]
  have h1 := shift_mask 2 1 1 (by decide) (by decide) 32 x
  have h2 := and_mask 2 1 (by decide) 32 x
  rw [show (2 : Nat) ^ 1 = 2 from rfl] at h1
  rw [h1, h2, mapd_add]
  exact mapd_congr 4 (by decide) _ _ (by decide) 32 x
theorem swar2 (x : Nat) : ((mapd 4 p2 32 x / 4) &&& 0x3333333333333333) + (mapd 4 p2 32 x &&& 0x3333333333333333) = mapd 16 p4 16 x := by
  have hm : mapd (2 ^ 4) (fun _ => 3) 16 0 = 0x3333333333333333 := by decide
  rw [← hm]
  have h1 := shift_mask 4 2 3 (by decide) (by decide) 16 (mapd 4 p2 32 x)
  have h2 := and_mask 4 3 (by decide) 16 (mapd 4 p2 32 x)
  rw [show (2 : Nat) ^ 2 = 4 from rfl] at h1
  rw [h1, h2, mapd_add, show 32 = 2 * 16 from rfl, mapd_two 4 (by decide)]
  have h3 : ∀ d, d < 4 * 4 → (fun d => p2 (d % 4) + 4 * p2 (d / 4)) d < 4 * 4 := by decide
  rw [show (2 : Nat) ^ 4 = 4 * 4 from rfl, mapd_comp (4 * 4) (by decide) _ _ h3]
  exact mapd_congr 16 (by decide) _ _ (by decide) 16 x
def r8 (d : Nat) : Nat := p4 (d % 16) + 16 * p4 (d / 16)
theorem r8_low (k x : Nat) : mapd 256 r8 k x % 16 ≤ 4 := by
  cases k with
  | zero => simp [mapd]
  | succ k =>
    simp only [mapd, r8]
    have h1 := p4_le (x % 256 % 16) (by omega)
    omega
theorem swar3_aux (k x : Nat) : mapd 256 (fun d => d &&& 15) k (mapd 256 r8 k x / 16 + mapd 256 r8 k x) = mapd 256 p8 k x := by
  induction k generalizing x with
  | zero => rfl
  | succ k ih =>
    have hl := r8_low k (x / 256)
    have h1 := p4_le (x % 256 % 16) (by omega)
    have h2 := p4_le (x % 256 / 16) (by omega)
    have hz : mapd 256 r8 (k + 1) x = p4 (x % 256 % 16) + 16 * p4 (x % 256 / 16) + 256 * mapd 256 r8 k (x / 256) := rfl
    have hp : p8 (x % 256) = p4 (x % 256 % 16) + p4 (x % 256 / 16) := rfl
    have ih' := ih (x / 256)
    rw [hz]
    generalize hZ : mapd 256 r8 k (x / 256) = Z at *
    generalize p4 (x % 256 % 16) = a at *
    generalize p4 (x % 256 / 16) = b at *
    have e1 : ((a + 16 * b + 256 * Z) / 16 + (a + 16 * b + 256 * Z)) % 256 &&& 15 = a + b := by
      rw [show (15 : Nat) = 2 ^ 4 - 1 from rfl, Nat.and_two_pow_sub_one_eq_mod]; omega
    have e2 : ((a + 16 * b + 256 * Z) / 16 + (a + 16 * b + 256 * Z)) / 256 = Z / 16 + Z := by omega
    show _ + 256 * mapd 256 _ k _ = p8 (x % 256) + 256 * mapd 256 p8 k (x / 256)
    rw [e2, ih', hp]
    show (((a + 16 * b + 256 * Z) / 16 + (a + 16 * b + 256 * Z)) % 256 &&& 15) + _ = _
    rw [e1]
theorem swar3 (x : Nat) : (mapd 16 p4 16 x / 16 + mapd 16 p4 16 x) &&& 0x0f0f0f0f0f0f0f0f = mapd 256 p8 8 x := by
  have hm : mapd (2 ^ 8) (fun _ => 15) 8 0 = 0x0f0f0f0f0f0f0f0f := by decide
  rw [← hm, and_mask 8 15 (by decide), show 16 = 2 * 8 from rfl, mapd_two (2 * 8) (by decide)]
  exact swar3_aux 8 x
end Go.Proofs.Ytinlmodkdjpocaa

set_option linter.unusedVariables false
namespace Go.Proofs.Ytinlmodkdjpocaa
theorem pn1 (d Y : Nat) (b : d ≤ 8) : (d + 256 * Y) / 256 = Y := by omega
theorem pn2 (d0 d1 d2 Y1 Y2 Y3 y1 : Nat) (h1 : y1 = d0 + 256 * Y1 + Y1) (q1 : d1 + 256 * Y2 = Y1) (q2 : d2 + 256 * Y3 = Y2) (b0 : d0 ≤ 8) (b1 : d1 ≤ 8) (b2 : d2 ≤ 8) : y1 / 65536 = Y2 + Y3 := by
  have h : y1 = 65536 * (Y2 + Y3) + (d0 + 257 * d1 + 256 * d2) := by omega
  rw [h, Nat.mul_add_div (by decide), Nat.div_eq_of_lt (by omega), Nat.add_zero]
theorem pn3 (d0 d1 d2 d3 d4 d5 d6 d7 Y1 Y2 Y3 Y4 Y5 Y6 y2 : Nat) (h2 : y2 = d0 + 256 * Y1 + Y1 + Y2 + Y3) (q1 : d1 + 256 * Y2 = Y1) (q2 : d2 + 256 * Y3 = Y2) (q3 : d3 + 256 * Y4 = Y3) (q4 : d4 + 256 * Y5 = Y4) (q5 : d5 + 256 * Y6 = Y5) (q6 : d6 + 256 * d7 = Y6)
    (b0 : d0 ≤ 8) (b1 : d1 ≤ 8) (b2 : d2 ≤ 8) (b3 : d3 ≤ 8) (b4 : d4 ≤ 8) (b5 : d5 ≤ 8) (b6 : d6 ≤ 8) : y2 / 4294967296 = Y4 + Y5 + Y6 + d7 := by
  have h : y2 = 4294967296 * (Y4 + Y5 + Y6 + d7) + (d0 + 257 * d1 + 65793 * d2 + 16843009 * d3 + 16843008 * d4 + 16842752 * d5 + 16777216 * d6) := by omega
  rw [h, Nat.mul_add_div (by decide), Nat.div_eq_of_lt (by omega), Nat.add_zero]
theorem pn4 (d0 d1 d2 d3 d4 d5 d6 d7 Y1 Y2 Y3 Y4 Y5 Y6 y3 : Nat) (h3 : y3 = d0 + 256 * Y1 + Y1 + Y2 + Y3 + (Y4 + Y5 + Y6 + d7)) (q1 : d1 + 256 * Y2 = Y1) (q2 : d2 + 256 * Y3 = Y2) (q3 : d3 + 256 * Y4 = Y3) (q4 : d4 + 256 * Y5 = Y4) (q5 : d5 + 256 * Y6 = Y5) (q6 : d6 + 256 * d7 = Y6)
    (b0 : d0 ≤ 8) (b1 : d1 ≤ 8) (b2 : d2 ≤ 8) (b3 : d3 ≤ 8) (b4 : d4 ≤ 8) (b5 : d5 ≤ 8) (b6 : d6 ≤ 8) (b7 : d7 ≤ 8) : y3 % 128 = d0 + (d1 + (d2 + (d3 + (d4 + (d5 + (d6 + (d7 + 0))))))) := by
  have h : y3 = 128 * (2 * (Y1 + Y2 + Y3 + Y4 + Y5 + Y6 + d7)) + (d0 + d1 + d2 + d3 + d4 + d5 + d6 + d7) := by omega
  rw [h, Nat.mul_add_mod_self_left, Nat.mod_eq_of_lt (by omega)]
  omega
theorem swar4 (x : Nat) : ∀ y1 y2 y3, y1 = mapd 256 p8 8 x + mapd 256 p8 8 x / 256 → y2 = y1 + y1 / 65536 → y3 = y2 + y2 / 4294967296 → y3 % 128 = ones 64 x := by
  intro y1 y2 y3 h1 h2 h3
  rw [ones_p8]
  simp only [mapd, sumd] at h1 ⊢
  have b : ∀ z : Nat, p8 (z % 256) ≤ 8 := fun z => p8_le _ (Nat.mod_lt _ (by decide))
  have b0 := b x
  have b1 := b (x / 256)
  have b2 := b (x / 256 / 256)
  have b3 := b (x / 256 / 256 / 256)
  have b4 := b (x / 256 / 256 / 256 / 256)
  have b5 := b (x / 256 / 256 / 256 / 256 / 256)
  have b6 := b (x / 256 / 256 / 256 / 256 / 256 / 256)
  have b7 := b (x / 256 / 256 / 256 / 256 / 256 / 256 / 256)
  generalize p8 (x % 256) = d0 at *
  generalize p8 (x / 256 % 256) = d1 at *
  generalize p8 (x / 256 / 256 % 256) = d2 at *
  generalize p8 (x / 256 / 256 / 256 % 256) = d3 at *
  generalize p8 (x / 256 / 256 / 256 / 256 % 256) = d4 at *
  generalize p8 (x / 256 / 256 / 256 / 256 / 256 % 256) = d5 at *
  generalize p8 (x / 256 / 256 / 256 / 256 / 256 / 256 % 256) = d6 at *
  generalize p8 (x / 256 / 256 / 256 / 256 / 256 / 256 / 256 % 256) = d7 at *
  clear b
  rw [show (256 * 0 : Nat) = 0 from rfl, Nat.add_zero] at h1
  obtain ⟨Y6, q6⟩ : ∃ Y, d6 + 256 * d7 = Y := ⟨_, rfl⟩
  rw [q6] at h1
  obtain ⟨Y5, q5⟩ : ∃ Y, d5 + 256 * Y6 = Y := ⟨_, rfl⟩
  rw [q5] at h1
  obtain ⟨Y4, q4⟩ : ∃ Y, d4 + 256 * Y5 = Y := ⟨_, rfl⟩
  rw [q4] at h1
  obtain ⟨Y3, q3⟩ : ∃ Y, d3 + 256 * Y4 = Y := ⟨_, rfl⟩
  rw [q3] at h1
  obtain ⟨Y2, q2⟩ : ∃ Y, d2 + 256 * Y3 = Y := ⟨_, rfl⟩
  rw [q2] at h1
  obtain ⟨Y1, q1⟩ : ∃ Y, d1 + 256 * Y2 = Y := ⟨_, rfl⟩
  rw [q1] at h1
  rw [pn1 d0 Y1 b0] at h1
  rw [pn2 d0 d1 d2 Y1 Y2 Y3 y1 h1 q1 q2 b0 b1 b2] at h2
  have h2' : y2 = d0 + 256 * Y1 + Y1 + Y2 + Y3 := by rw [h2, h1]; exact (Nat.add_assoc _ _ _).symm
  rw [pn3 d0 d1 d2 d3 d4 d5 d6 d7 Y1 Y2 Y3 Y4 Y5 Y6 y2 h2' q1 q2 q3 q4 q5 q6 b0 b1 b2 b3 b4 b5 b6] at h3
  rw [h2'] at h3
  exact pn4 d0 d1 d2 d3 d4 d5 d6 d7 Y1 Y2 Y3 Y4 Y5 Y6 y3 h3 q1 q2 q3 q4 q5 q6 b0 b1 b2 b3 b4 b5 b6 b7
end Go.Proofs.Ytinlmodkdjpocaa

set_option linter.unusedVariables false
namespace Go.Proofs.Ytinlmodkdjpocaa
open Go.RowKit

theorem u64_and_div (a s c : Nat) (ha : a < 18446744073709551616) (hc : c < 18446744073709551616) : bits .and .u64 ((a : Int) / (s : Nat)) (c : Nat) = ((a / s &&& c : Nat) : Int) := by
  rw [← Int.natCast_ediv]
  exact bits_and_u64_nat _ _ (Nat.lt_of_le_of_lt (Nat.div_le_self _ _) ha) hc
theorem u64_wrap_nat (n : Nat) (h : n < 18446744073709551616) (z : Int) (hz : z = (n : Nat)) : IntKind.u64.wrap z = (n : Nat) := by
  rw [hz, IntKind.wrap_u64]; omega

theorem mapd_le (b m : Nat) (hb : 0 < b) (f : Nat → Nat) (h : ∀ d, d < b → f d ≤ m) (k x : Nat) : mapd b f k x * (b - 1) + m ≤ m * b ^ k := by
  induction k generalizing x with
  | zero => simp [mapd]
  | succ k ih =>
    simp only [mapd]
    have h1 := h _ (Nat.mod_lt x hb)
    have h2 := ih (x / b)
    generalize mapd b f k (x / b) = T at *
    generalize f (x % b) = a at *
    have h3 : a * (b - 1) ≤ m * (b - 1) := Nat.mul_le_mul_right _ h1
    have h4 : b * (T * (b - 1) + m) ≤ b * (m * b ^ k) := Nat.mul_le_mul_left b h2
    have e1 : (a + b * T) * (b - 1) = a * (b - 1) + b * (T * (b - 1)) := by rw [Nat.add_mul, Nat.mul_assoc]
    have e2 : m * (b - 1) + m = b * m := by
      obtain ⟨c, rfl⟩ : ∃ c, b = c + 1 := ⟨b - 1, by omega⟩
      rw [Nat.add_sub_cancel, Nat.add_mul, Nat.one_mul, Nat.mul_comm]
    have e3 : m * b ^ (k + 1) = b * (m * b ^ k) := by rw [Nat.pow_succ, Nat.mul_comm (b ^ k) b, Nat.mul_left_comm]
    rw [Nat.mul_add] at h4
    rw [e1, e3]
    omega

set_option maxRecDepth 100000 in
theorem ones_count (x : Nat) (hx : x < 18446744073709551616) (w : World) : Calls Try.prog 143 #[.int .u64 x] w fun e w' => e = .returned (.int .i64 (ones 64 x : Nat)) ∧ w' = w := by
  have a1 : bits .and .u64 ((x : Int) / 2) 6148914691236517205 = ((x / 2 &&& 6148914691236517205 : Nat) : Int) := u64_and_div x 2 6148914691236517205 hx (by decide)
  have a2 : bits .and .u64 (x : Int) 6148914691236517205 = ((x &&& 6148914691236517205 : Nat) : Int) := bits_and_u64_nat x 6148914691236517205 hx (by decide)
  have s1 := swar1 x
  have lA : mapd 4 p2 32 x < 18446744073709551616 := mapd_lt 4 (by decide) p2 (by decide) 32 x
  have s2 := swar2 x
  have lB : mapd 16 p4 16 x < 18446744073709551616 := mapd_lt 16 (by decide) p4 (by decide) 16 x
  have s3 := swar3 x
  have lC : mapd 256 p8 8 x < 18446744073709551616 := mapd_lt 256 (by decide) p8 (fun d hd => by have := p8_le d hd; omega) 8 x
  have s4 := swar4 x
  have kB : mapd 16 p4 16 x / 16 + mapd 16 p4 16 x < 18446744073709551616 := by
    have := mapd_le 16 4 (by decide) p4 p4_le 16 x
    rw [show 4 * 16 ^ 16 = 73786976294838206464 from by decide] at this
    omega
  have kC : mapd 256 p8 8 x ≤ 578721382704613384 := by
    have := mapd_le 256 8 (by decide) p8 (fun d hd => p8_le d hd) 8 x
    rw [show 8 * 256 ^ 8 = 147573952589676412928 from by decide] at this
    omega
  generalize mapd 4 p2 32 x = A at *
  generalize mapd 16 p4 16 x = B at *
  generalize mapd 256 p8 8 x = C at *
  generalize ones 64 x = R at *
  generalize x / 2 &&& 6148914691236517205 = u1 at *
  generalize x &&& 6148914691236517205 = u2 at *
  have b0 : IntKind.u64.wrap ((u1 : Int) + (u2 : Nat)) = (A : Nat) := u64_wrap_nat A lA _ (by omega)
  have b1 : bits .and .u64 ((A : Int) / 4) 3689348814741910323 = ((A / 4 &&& 3689348814741910323 : Nat) : Int) := u64_and_div A 4 3689348814741910323 lA (by decide)
  have b2 : bits .and .u64 (A : Int) 3689348814741910323 = ((A &&& 3689348814741910323 : Nat) : Int) := bits_and_u64_nat A 3689348814741910323 lA (by decide)
  generalize A / 4 &&& 3689348814741910323 = v1 at *
  generalize A &&& 3689348814741910323 = v2 at *
  have c0 : IntKind.u64.wrap ((v1 : Int) + (v2 : Nat)) = (B : Nat) := u64_wrap_nat B lB _ (by omega)
  have c1 : IntKind.u64.wrap ((B : Int) / 16 + (B : Nat)) = ((B / 16 + B : Nat) : Int) := u64_wrap_nat _ kB _ (by omega)
  have c2 : bits .and .u64 ((B / 16 + B : Nat) : Int) 1085102592571150095 = (C : Nat) := by rw [← s3]; exact bits_and_u64_nat _ 1085102592571150095 kB (by decide)
  generalize B / 16 + B = BB at *
  obtain ⟨y1, e1⟩ : ∃ y1, y1 = C + C / 256 := ⟨_, rfl⟩
  obtain ⟨y2, e2⟩ : ∃ y2, y2 = y1 + y1 / 65536 := ⟨_, rfl⟩
  obtain ⟨y3, e3⟩ : ∃ y3, y3 = y2 + y2 / 4294967296 := ⟨_, rfl⟩
  have r := s4 y1 y2 y3 e1 e2 e3
  have l3 : y3 ≤ 600000000000000000 := by omega
  have d1 : IntKind.u64.wrap ((C : Int) + (C : Nat) / 256) = (y1 : Nat) := u64_wrap_nat y1 (by omega) _ (by omega)
  have d2 : IntKind.u64.wrap ((y1 : Int) + (y1 : Nat) / 65536) = (y2 : Nat) := u64_wrap_nat y2 (by omega) _ (by omega)
  have d3 : IntKind.u64.wrap ((y2 : Int) + (y2 : Nat) / 4294967296) = (y3 : Nat) := u64_wrap_nat y3 (by omega) _ (by omega)
  have d4 : bits .and .i64 (y3 : Int) 127 = (R : Nat) := by rw [i64_and127]; omega
  clear s1 s2 s3 s4 e1 e2 e3 r lA lB lC kB kC hx
  go_enter Try.func143, Try.ntmps143
  go_wp2
  go_ret
  exact ⟨rfl, rfl⟩
end Go.Proofs.Ytinlmodkdjpocaa

set_option linter.unusedVariables false
namespace Go.Proofs.Ytinlmodkdjpocaa

/-- a row of bits as a number, the first one lowest -/
def wordL : List Bool → Nat
  | [] => 0
  | b :: l => b.toNat + 2 * wordL l
/-- how many of the first i are set -/
def rank1 (l : List Bool) (i : Nat) : Nat := (l.take i).count true
theorem wordL_mod (b : Bool) (l : List Bool) : wordL (b :: l) % 2 = b.toNat ∧ wordL (b :: l) / 2 = wordL l := by
  cases b <;> simp [wordL] <;> omega
theorem ones_zero (k : Nat) : ones k 0 = 0 := by
  induction k with
  | zero => rfl
  | succ k ih => simp [ones, ih]
theorem ones_wordL (k : Nat) (l : List Bool) : ones k (wordL l) = (l.take k).count true := by
  induction k generalizing l with
  | zero => simp [ones]
  | succ k ih =>
    cases l with
    | nil => simp [wordL, ones_zero]
    | cons b l =>
      obtain ⟨h1, h2⟩ := wordL_mod b l
      simp only [ones, h1, h2, ih, List.take_succ_cons, List.count_cons]
      cases b <;> simp; omega
theorem wordL_lt (l : List Bool) : wordL l < 2 ^ l.length := by
  induction l with
  | nil => simp [wordL]
  | cons b l ih => cases b <;> simp [wordL, Nat.pow_succ] <;> omega
theorem wordL_take (l : List Bool) (r : Nat) : wordL l % 2 ^ r = wordL (l.take r) := by
  induction r generalizing l with
  | zero => simp [wordL, Nat.mod_one]
  | succ r ih =>
    cases l with
    | nil => simp [wordL]
    | cons b l =>
      have hb : b.toNat < 2 := by cases b <;> decide
      simp only [wordL, List.take_succ_cons, ← ih]
      rw [Nat.pow_succ, Nat.mul_comm (2 ^ r) 2, Nat.mod_mul]
      congr 1
      · omega
      · congr 2; omega
theorem wordL_and (l : List Bool) (r : Nat) : wordL l &&& (2 ^ r - 1) = wordL (l.take r) := by
  rw [Nat.and_two_pow_sub_one_eq_mod, wordL_take]
theorem rank1_split (l : List Bool) (q r : Nat) : rank1 l (64 * q + r) = rank1 l (64 * q) + ((l.drop (64 * q)).take r).count true := by
  unfold rank1
  rw [← List.count_append, List.take_add]
/-- the rank out of a word -/
theorem rank1_word (l : List Bool) (i : Nat) : rank1 l i = rank1 l (64 * (i / 64)) + ones 64 (wordL ((l.drop (64 * (i / 64))).take 64) &&& (2 ^ (i % 64) - 1)) := by
  rw [wordL_and, ones_wordL, List.take_take, List.take_take]
  have h : i % 64 < 64 := Nat.mod_lt _ (by decide)
  rw [show min (min 64 (i % 64)) 64 = i % 64 from by omega, ← rank1_split, Nat.div_add_mod]
theorem rank1_next (l : List Bool) (q : Nat) : rank1 l (64 * (q + 1)) = rank1 l (64 * q) + ones 64 (wordL ((l.drop (64 * q)).take 64)) := by
  rw [ones_wordL, List.take_take, Nat.min_self, Nat.mul_add, Nat.mul_one, rank1_split]

theorem wordL_append (x y : List Bool) : wordL (x ++ y) = wordL x + 2 ^ x.length * wordL y := by
  induction x with
  | nil => simp [wordL]
  | cons b x ih => simp only [List.cons_append, wordL, ih, List.length_cons, Nat.pow_succ, Nat.mul_add]; rw [Nat.mul_comm (2 ^ x.length) 2, Nat.mul_assoc]; omega
/-- a word of the first i bits -/
def partW (l : List Bool) (i q : Nat) : Nat := wordL (((l.take i).drop (64 * q)).take 64)
theorem partW_step (l : List Bool) (i q : Nat) (h : i < l.length) : partW l (i + 1) q = partW l i q + if q = i / 64 ∧ l[i] = true then 2 ^ (i % 64) else 0 := by
  unfold partW
  rw [List.take_succ_eq_append_getElem h]
  have hl : (l.take i).length = i := by simp; omega
  generalize l[i] = c
  generalize l.take i = l at *
  by_cases h1 : 64 * q ≤ i
  · rw [List.drop_append_of_le_length (by omega)]
    have hd : (l.drop (64 * q)).length = i - 64 * q := by rw [List.length_drop, hl]
    by_cases h2 : i - 64 * q < 64
    · have hq : q = i / 64 := by omega
      rw [List.take_of_length_le (by rw [List.length_append, hd, List.length_singleton]; omega), List.take_of_length_le (by omega), wordL_append, hd]
      have hr : i - 64 * q = i % 64 := by omega
      rw [hr]
      cases c <;> simp [wordL, hq]
    · have hq : ¬ q = i / 64 := by omega
      rw [List.take_append_of_le_length (by omega), if_neg (fun h => hq h.1), Nat.add_zero]
  · rw [List.drop_eq_nil_of_le (by simp; omega), List.drop_eq_nil_of_le (by omega), if_neg (by omega)]
    rfl
theorem partW_lt (l : List Bool) (i : Nat) (h : i < l.length) : partW l i (i / 64) < 2 ^ (i % 64) := by
  have h1 := wordL_lt (((l.take i).drop (64 * (i / 64))).take 64)
  have h2 : (((l.take i).drop (64 * (i / 64))).take 64).length = i % 64 := by simp; omega
  rw [h2] at h1
  exact h1
theorem partW_or (l : List Bool) (i : Nat) (h : i < l.length) (ht : l[i] = true) : partW l i (i / 64) ||| 2 ^ (i % 64) = partW l (i + 1) (i / 64) := by
  rw [partW_step l i _ h, if_pos ⟨rfl, ht⟩, Nat.or_comm]
  have := Nat.two_pow_add_eq_or_of_lt (partW_lt l i h) 1
  rw [Nat.mul_one] at this
  rw [← this, Nat.add_comm]
theorem map_range_set {α : Type} (f : Nat → α) (n k : Nat) (v : α) : ((List.range n).map f).set k v = (List.range n).map (fun j => if j = k then v else f j) := by
  apply List.ext_getElem
  · simp
  · intro i h1 h2
    rw [List.getElem_set]
    by_cases e : k = i
    · subst e; simp
    · rw [if_neg e]; simp; intro e2; exact absurd e2.symm e
end Go.Proofs.Ytinlmodkdjpocaa

set_option linter.unusedVariables false
namespace Go.Proofs.Ytinlmodkdjpocaa

/-- a symbol's bit of a level -/
def bitK (k c : Nat) : Bool := decide (c / 2 ^ (8 - k) % 2 = 1)
def rowK : Nat → List Nat → List Nat
  | 0, l => l
  | k + 1, l => (rowK k l).filter (fun c => !bitK k c) ++ (rowK k l).filter (fun c => bitK k c)
def levK (k : Nat) (l : List Nat) : List Bool := (rowK k l).map (bitK k)
def zerK (k : Nat) (l : List Nat) : Nat := ((rowK k l).filter (fun c => !bitK k c)).length
/-- two places a level lower -/
def downP (k : Nat) (l : List Nat) (i : Nat) (set : Bool) : Nat := if set then zerK k l + rank1 (levK k l) i else i - rank1 (levK k l) i
/-- a place, levels lower -/
def atK (c : Nat) (l : List Nat) : Nat → Nat → Nat
  | 0, i => i
  | k + 1, i => downP k l (atK c l k i) (bitK k c)
/-- the same bits on the levels ahead -/
def agree (c : Nat) : Nat → Nat → Bool
  | 0, _ => true
  | k + 1, x => agree c k x && (bitK k x == bitK k c)

theorem rowK_length (k : Nat) (l : List Nat) : (rowK k l).length = l.length := by
  induction k with
  | zero => rfl
  | succ k ih =>
    simp only [rowK, List.length_append]
    rw [← ih]
    have := List.length_eq_countP_add_countP (l := rowK k l) (fun c => bitK k c)
    rw [List.countP_eq_length_filter, List.countP_eq_length_filter] at this
    have e : (rowK k l).filter (fun a => decide ¬bitK k a = true) = (rowK k l).filter (fun c => !bitK k c) := by
      apply List.filter_congr
      intro a _
      cases bitK k a <;> rfl
    rw [e] at this
    omega
theorem rowK_mem (k : Nat) (l : List Nat) (x : Nat) (h : x ∈ rowK k l) : x ∈ l := by
  induction k with
  | zero => exact h
  | succ k ih =>
    simp only [rowK, List.mem_append, List.mem_filter] at h
    rcases h with h | h <;> exact ih h.1
theorem rank1_append (A B : List Bool) : rank1 (A ++ B) A.length = A.count true := by
  unfold rank1; rw [List.take_left]
theorem rank1_map (A B : List Nat) (f : Nat → Bool) : rank1 ((A ++ B).map f) A.length = (A.filter f).length := by
  rw [List.map_append]
  have := rank1_append (A.map f) (B.map f)
  rw [List.length_map] at this
  rw [this, List.count_eq_countP, List.countP_map, ← List.countP_eq_length_filter]
  apply List.countP_congr
  intro a _
  simp
theorem filter_not_length (A : List Nat) (f : Nat → Bool) : (A.filter (fun c => !f c)).length = A.length - (A.filter f).length := by
  have := List.length_eq_countP_add_countP (l := A) f
  rw [List.countP_eq_length_filter, List.countP_eq_length_filter] at this
  have e : A.filter (fun a => decide ¬f a = true) = A.filter (fun c => !f c) := by
    apply List.filter_congr
    intro a _
    cases f a <;> rfl
  rw [e] at this
  omega
/-- THE LEVELS: a row's part between two places is the first ones' symbols that agree. -/
theorem level_split (c : Nat) (l : List Nat) (i : Nat) (k : Nat) : ∃ A S B, rowK k l = A ++ S ++ B ∧ S = (l.take i).filter (agree c k) ∧ atK c l k 0 = A.length ∧ atK c l k (min i l.length) = A.length + S.length := by
  induction k with
  | zero =>
    refine ⟨[], l.take i, l.drop i, by simp [rowK], ?_, rfl, ?_⟩
    · rw [List.filter_eq_self.2]; intro a _; rfl
    · simp [atK]
  | succ k ih =>
    obtain ⟨A, S, B, h1, h2, h3, h4⟩ := ih
    have hS : (l.take i).filter (agree c (k + 1)) = S.filter (fun x => bitK k x == bitK k c) := by
      rw [h2, List.filter_filter]
      apply List.filter_congr
      intro x _
      simp [agree, Bool.and_comm]
    have r0 : rank1 (levK k l) A.length = (A.filter (bitK k)).length := by
      unfold levK
      rw [h1, List.append_assoc, rank1_map]
    have r1 : rank1 (levK k l) (A.length + S.length) = (A.filter (bitK k)).length + (S.filter (bitK k)).length := by
      unfold levK
      rw [h1, ← List.length_append, rank1_map, List.filter_append, List.length_append]
    have l0 := List.length_filter_le (bitK k) A
    have l1 := List.length_filter_le (bitK k) S
    cases hb : bitK k c with
    | true =>
      have hz : zerK k l = (A.filter (fun c => !bitK k c)).length + (S.filter (fun c => !bitK k c)).length + (B.filter (fun c => !bitK k c)).length := by
        unfold zerK; rw [h1]; simp [Nat.add_assoc]
      refine ⟨(rowK k l).filter (fun c => !bitK k c) ++ A.filter (bitK k), S.filter (bitK k), B.filter (bitK k), ?_, ?_, ?_, ?_⟩
      · simp only [rowK]
        conv => lhs; arg 2; rw [h1, List.filter_append, List.filter_append]
        simp [List.append_assoc]
      · rw [hS]
        apply List.filter_congr
        intro x _
        rw [hb]; cases bitK k x <;> rfl
      · simp only [atK, downP, hb, if_true, h3, r0, List.length_append]
        rfl
      · simp only [atK, downP, hb, if_true, h4, r1, List.length_append]
        unfold zerK; omega
    | false =>
      refine ⟨A.filter (fun c => !bitK k c), S.filter (fun c => !bitK k c), B.filter (fun c => !bitK k c) ++ (rowK k l).filter (fun c => bitK k c), ?_, ?_, ?_, ?_⟩
      · simp only [rowK]
        conv => lhs; arg 1; rw [h1, List.filter_append, List.filter_append]
        simp [List.append_assoc]
      · rw [hS]
        apply List.filter_congr
        intro x _
        rw [hb]; cases bitK k x <;> rfl
      · simp only [atK, downP, hb, Bool.false_eq_true, if_false, h3, r0, filter_not_length]
      · simp only [atK, downP, hb, Bool.false_eq_true, if_false, h4, r1, filter_not_length]
        omega
theorem agree_all (c x : Nat) (hc : c < 512) (hx : x < 512) (h : agree c 9 x = true) : x = c := by
  have hb : ∀ k y, bitK k y = y.testBit (8 - k) := fun k y => by
    unfold bitK; rw [Nat.testBit_eq_decide_div_mod_eq]
  simp only [agree, hb, Bool.and_eq_true, beq_iff_eq, Bool.true_and, Nat.sub_zero, Nat.reduceSub] at h
  obtain ⟨⟨⟨⟨⟨⟨⟨⟨h0, h1⟩, h2⟩, h3⟩, h4⟩, h5⟩, h6⟩, h7⟩, h8⟩ := h
  apply Nat.eq_of_testBit_eq
  intro i
  match i with
  | 0 => exact h8
  | 1 => exact h7
  | 2 => exact h6
  | 3 => exact h5
  | 4 => exact h4
  | 5 => exact h3
  | 6 => exact h2
  | 7 => exact h1
  | 8 => exact h0
  | i + 9 =>
    have hp : 512 ≤ 2 ^ (i + 9) := by
      rw [Nat.pow_add]; have : 0 < 2 ^ i := Nat.pow_pos (by decide)
      omega
    rw [Nat.testBit_lt_two_pow (by omega), Nat.testBit_lt_two_pow (by omega)]
theorem agree_self (c k : Nat) : agree c k c = true := by
  induction k with
  | zero => rfl
  | succ k ih => simp [agree, ih]
/-- THE RANK OF A SYMBOL -/
theorem rank_levels (c : Nat) (l : List Nat) (i : Nat) (hc : c ≤ 256) (hl : ∀ x ∈ l, x ≤ 256) : atK c l 9 (min i l.length) - atK c l 9 0 = (l.take i).count c ∧ atK c l 9 0 ≤ atK c l 9 (min i l.length) := by
  obtain ⟨A, S, B, h1, h2, h3, h4⟩ := level_split c l i 9
  have e : (l.take i).count c = S.length := by
    rw [h2, List.count_eq_countP, ← List.countP_eq_length_filter]
    apply List.countP_congr
    intro x hx
    have := hl x (List.mem_of_mem_take hx)
    rw [beq_iff_eq]
    constructor
    · rintro rfl; exact agree_self _ _
    · intro h; exact agree_all c x (by omega) (by omega) h
  rw [h3, h4, e]
  omega
theorem rank1_le (l : List Bool) (i : Nat) : rank1 l i ≤ i ∧ rank1 l i ≤ l.length := by
  unfold rank1
  have := List.count_le_length (a := true) (l := l.take i)
  rw [List.length_take] at this
  omega
theorem zerK_le (k : Nat) (l : List Nat) : zerK k l ≤ l.length := by
  unfold zerK
  have := List.length_filter_le (fun c => !bitK k c) (rowK k l)
  rw [rowK_length] at this
  exact this
theorem zerK_rank (k : Nat) (l : List Nat) (i : Nat) : zerK k l + rank1 (levK k l) i ≤ l.length := by
  have h : rank1 (levK k l) i ≤ ((rowK k l).filter (bitK k)).length := by
    unfold rank1 levK
    have h1 := (List.take_sublist i ((rowK k l).map (bitK k))).count_le true
    refine Nat.le_trans h1 (Nat.le_of_eq ?_)
    rw [List.count_eq_countP, List.countP_map, ← List.countP_eq_length_filter]
    apply List.countP_congr
    intro a _
    simp
  have h2 := filter_not_length (rowK k l) (bitK k)
  have h3 := List.length_filter_le (bitK k) (rowK k l)
  rw [rowK_length] at h2 h3
  unfold zerK
  omega
theorem downP_le (k : Nat) (l : List Nat) (i : Nat) (set : Bool) (h : i ≤ l.length) : downP k l i set ≤ l.length := by
  unfold downP
  have := zerK_rank k l i
  split <;> omega
theorem atK_le (c : Nat) (l : List Nat) (k i : Nat) (h : i ≤ l.length) : atK c l k i ≤ l.length := by
  induction k with
  | zero => exact h
  | succ k ih => exact downP_le k l _ _ ih
end Go.Proofs.Ytinlmodkdjpocaa
