/-
  Numbers as bytes, the lowest first: what number and bytes of the log do. Conditions: at most eight bytes.
-/
import Derived.Test.YtihpobpkhhkejaaProg
import Derived.Test.YtihpobpkhhkejaaBase
import Derived.WalkLawsBesides
import Derived.WalkSpells
import Derived.Lib.Hide
import Derived.Laws.Bits64b
import Derived.Laws.BitsLemmas
set_option autoImplicit false
namespace Go.Proofs.Ytihpobpkhhkejaa
open Go Go.RowKit

def numOf : List Int → Int
  | [] => 0
  | b :: bs => b + 256 * numOf bs
def leN (n : Int) : Nat → List Int
  | 0 => []
  | k + 1 => n % 256 :: leN (n / 256) k
@[simp] theorem leN_len (n : Int) (k : Nat) : (leN n k).length = k := by
  induction k generalizing n with
  | zero => rfl
  | succ k ih => simp [leN, ih]
def Bytes (bs : List Int) : Prop := ∀ b ∈ bs, 0 ≤ b ∧ b ≤ 255
theorem leN_bytes (n : Int) (k : Nat) : Bytes (leN n k) := by
  induction k generalizing n with
  | zero => intro b hb; cases hb
  | succ k ih =>
    intro b hb
    rcases List.mem_cons.1 hb with rfl | hb
    · omega
    · exact ih _ b hb
theorem numOf_le (bs : List Int) (h : Bytes bs) : 0 ≤ numOf bs ∧ numOf bs < 256 ^ bs.length := by
  induction bs with
  | nil => simp [numOf]
  | cons b bs ih =>
    have h1 := ih (fun x hx => h x (by simp [hx]))
    have h2 := h b (by simp)
    rw [List.length_cons, Int.pow_succ]
    simp only [numOf]
    omega
theorem numOf_leN (n : Int) (k : Nat) (h0 : 0 ≤ n) (h1 : n < 256 ^ k) : numOf (leN n k) = n := by
  induction k generalizing n with
  | zero => simp [leN, numOf] at *; omega
  | succ k ih =>
    rw [Int.pow_succ] at h1
    simp only [leN, numOf]
    rw [ih (n / 256) (by omega) (by omega)]
    omega
theorem numOf_snoc (bs : List Int) (b : Int) : numOf (bs ++ [b]) = numOf bs + b * 256 ^ bs.length := by
  induction bs with
  | nil => simp [numOf]
  | cons c bs ih =>
    simp only [List.cons_append, numOf, ih, List.length_cons, Int.pow_succ]
    rw [Int.mul_add]
    have : 256 * (b * 256 ^ bs.length) = b * (256 ^ bs.length * 256) := by rw [Int.mul_comm (256 ^ bs.length) 256, ← Int.mul_assoc, Int.mul_comm 256 b, Int.mul_assoc]
    omega
theorem or_hi (i : Nat) (x y : Int) (hx0 : 0 ≤ x) (hx : x < 2 ^ i) (hy0 : 0 ≤ y) (hy : y % 2 ^ i = 0) (hy1 : y < 18446744073709551616) (hx1 : x < 18446744073709551616) : bits .or .u64 x y = x + y := by
  obtain ⟨a, rfl⟩ := Int.eq_ofNat_of_zero_le hx0
  obtain ⟨b, rfl⟩ := Int.eq_ofNat_of_zero_le hy0
  have ha : a < 2 ^ i := by exact_mod_cast hx
  have hd : b % 2 ^ i = 0 := by exact_mod_cast hy
  have hq : b = 2 ^ i * (b / 2 ^ i) := by
    have := Nat.div_add_mod b (2 ^ i)
    omega
  rw [bits_or_u64_nat a b (by omega) (by omega), Nat.or_comm, hq, ← Nat.two_pow_add_eq_or_of_lt ha (b / 2 ^ i)]
  simp
  omega
theorem or_hi' (i : Nat) (m x y : Int) (hm : m = 2 ^ i) (hx0 : 0 ≤ x) (hx : x < m) (hy0 : 0 ≤ y) (hy : y % m = 0) (hy1 : y < 18446744073709551616) (hx1 : x < 18446744073709551616) : bits .or .u64 x y = x + y := by
  subst hm
  exact or_hi i x y hx0 hx hy0 hy hy1 hx1
theorem or_lo (c : Int) (h : 0 ≤ c ∧ c ≤ 255) : bits .or .u64 0 c = c := by
  rw [or_hi' 0 1 0 c (by decide) (by omega) (by omega) (by omega) (by omega) (by omega) (by omega)]; omega
set_option maxRecDepth 100000 in
set_option maxHeartbeats 2000000 in
theorem number_any (b off cap : Nat) (bs : List Int) (w : World) (hb : Bytes bs) (hl : bs.length ≤ 8) (hc : ∀ j, (h : j < bs.length) → w.cell? ⟨b, off + j, none⟩ = some (.int .u8 bs[j])) :
    Calls Try.prog 52 #[.slice (some ⟨b, off, none⟩) bs.length cap] w fun e w' => e = .returned (.int .u64 (numOf bs)) ∧ w = w' := by
  have HB := Lib.hid hb; have HC := Lib.hid hc
  clear hb hc
  go_enter Try.func52, Try.ntmps52
  go_wp2
  go_loop [3, 7] (fun s3 s7 => ∃ i : Nat, i ≤ bs.length ∧ s3 = .int .u64 (numOf (bs.take i)) ∧ s7 = .int .i64 i) (fun _ s7 => bs.length - (intOf s7).toNat)
  case atStart => exact ⟨0, Nat.zero_le _, rfl, rfl⟩
  case round =>
    obtain ⟨i, hi, rfl, rfl⟩ := hrel
    by_cases hlt : i < bs.length
    · have hci := HC.out i hlt
      have hbi := HB.out bs[i] (List.getElem_mem hlt)
      have hn := numOf_le (bs.take i) (fun x hx => HB.out x (List.mem_of_mem_take hx))
      have hs := numOf_snoc (bs.take i) bs[i]
      rw [show bs.take i ++ [bs[i]] = bs.take (i + 1) from (List.take_succ_eq_append_getElem hlt).symm] at hs
      have hlen : (bs.take i).length = i := by rw [List.length_take]; omega
      rw [hlen] at hn hs
      generalize bs[i] = c at *
      generalize numOf (bs.take i) = a at *
      have HS := Lib.hid hs
      clear hs hlen
      rcases (show i = 0 ∨ i = 1 ∨ i = 2 ∨ i = 3 ∨ i = 4 ∨ i = 5 ∨ i = 6 ∨ i = 7 by omega) with rfl | rfl | rfl | rfl | rfl | rfl | rfl | rfl
      · simp only [Nat.add_zero] at hci
        have ha : a = 0 := by have := hn.2; simp at this; omega
        subst ha
        go_wp2
        refine ⟨⟨1, by omega, ?_, rfl⟩, by simp [intOf]; omega⟩
        rw [HS.out, or_lo c hbi]
        simp
      · have ha : a < 256 := by have := hn.2; simp at this; omega
        go_wp2
        refine ⟨⟨2, by omega, ?_, rfl⟩, by simp [intOf]; omega⟩
        rw [HS.out, or_hi' 8 256 a (c * 256) (by decide) (by omega) ha (by omega) (by omega) (by omega) (by omega)]
        simp
      · have ha : a < 65536 := by have := hn.2; simp at this; omega
        go_wp2
        refine ⟨⟨3, by omega, ?_, rfl⟩, by simp [intOf]; omega⟩
        rw [HS.out, or_hi' 16 65536 a (c * 65536) (by decide) (by omega) ha (by omega) (by omega) (by omega) (by omega)]
        simp
      · have ha : a < 16777216 := by have := hn.2; simp at this; omega
        go_wp2
        refine ⟨⟨4, by omega, ?_, rfl⟩, by simp [intOf]; omega⟩
        rw [HS.out, or_hi' 24 16777216 a (c * 16777216) (by decide) (by omega) ha (by omega) (by omega) (by omega) (by omega)]
        simp
      · have ha : a < 4294967296 := by have := hn.2; simp at this; omega
        go_wp2
        refine ⟨⟨5, by omega, ?_, rfl⟩, by simp [intOf]; omega⟩
        rw [HS.out, or_hi' 32 4294967296 a (c * 4294967296) (by decide) (by omega) ha (by omega) (by omega) (by omega) (by omega)]
        simp
      · have ha : a < 1099511627776 := by have := hn.2; simp at this; omega
        go_wp2
        refine ⟨⟨6, by omega, ?_, rfl⟩, by simp [intOf]; omega⟩
        rw [HS.out, or_hi' 40 1099511627776 a (c * 1099511627776) (by decide) (by omega) ha (by omega) (by omega) (by omega) (by omega)]
        simp
      · have ha : a < 281474976710656 := by have := hn.2; simp at this; omega
        go_wp2
        refine ⟨⟨7, by omega, ?_, rfl⟩, by simp [intOf]; omega⟩
        rw [HS.out, or_hi' 48 281474976710656 a (c * 281474976710656) (by decide) (by omega) ha (by omega) (by omega) (by omega) (by omega)]
        simp
      · have ha : a < 72057594037927936 := by have := hn.2; simp at this; omega
        go_wp2
        refine ⟨⟨8, by omega, ?_, rfl⟩, by simp [intOf]; omega⟩
        rw [HS.out, or_hi' 56 72057594037927936 a (c * 72057594037927936) (by decide) (by omega) ha (by omega) (by omega) (by omega) (by omega)]
        simp
    · have hie : i = bs.length := by omega
      subst hie
      rw [List.take_length]
      go_wp2
      go_ret
      exact ⟨rfl, rfl⟩
end Go.Proofs.Ytihpobpkhhkejaa
