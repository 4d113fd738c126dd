/- The two orders p and r are primes: by Pocklington's test, down to small primes. -/
import Derived.Test.YtbdbmcdcjejffaaPrA
set_option linter.unusedVariables false
set_option linter.unusedSimpArgs false
set_option linter.unusedSectionVars false
namespace Go.Sh

/-- None of the 2^k numbers from lo on divides n. -/
def noDiv (n : Nat) : Nat → Nat → Bool
  | 0, lo => !(Nat.beq (n % lo) 0)
  | k + 1, lo => match noDiv n k lo with | true => noDiv n k (lo + 2 ^ k) | false => false

theorem noDiv_spec {n : Nat} : ∀ {k lo : Nat}, noDiv n k lo = true → ∀ d, lo ≤ d → d < lo + 2 ^ k → ¬ d ∣ n
  | 0, lo, h, d, h1, h2, hd => by
    have : d = lo := by simp at h2; omega
    subst this
    rw [noDiv, Nat.mod_eq_zero_of_dvd hd] at h
    exact absurd h (by decide)
  | k + 1, lo, h, d, h1, h2, hd => by
    simp only [noDiv] at h
    split at h
    · rename_i h3
      rcases Nat.lt_or_ge d (lo + 2 ^ k) with h4 | h4
      · exact noDiv_spec h3 d h1 h4 hd
      · exact noDiv_spec h d h4 (by rw [Nat.pow_succ] at h2; omega) hd
    · cases h

theorem prime_small {n : Nat} (k : Nat) (hn : 2 ≤ n) (h : noDiv n k 2 = true) (hk : n < (2 + 2 ^ k) * (2 + 2 ^ k)) : Prime n := by
  refine prime_of_big hn (fun l hl hd => ?_)
  have hl2 := hl.1
  rcases Nat.lt_or_ge l (2 + 2 ^ k) with h1 | h1
  · exact absurd hd (noDiv_spec h l hl2 h1)
  · exact Nat.lt_of_lt_of_le hk (Nat.mul_le_mul h1 h1)

theorem pock {N q e a c : Nat} (f : Nat) (hN : 2 ≤ N) (hq : Prime q) (hc : N - 1 = q ^ (e + 1) * c) (hb : N < 2 ^ f) (h1 : powMod N f a (N - 1) = 1) (h2 : Nat.gcd (powMod N f a (q ^ e * c) + (N - 1)) N = 1) :
    ∀ l, Prime l → l ∣ N → q ^ (e + 1) ∣ l - 1 := by
  intro l hl hd
  have hqc : q ^ e * c < 2 ^ f := by
    have : q ^ e * c ≤ N - 1 := by
      rw [hc, Nat.pow_succ]
      have hq1 := hq.1
      calc q ^ e * c ≤ (q ^ e * c) * q := Nat.le_mul_of_pos_right _ (by omega)
        _ = q ^ e * q * c := by ac_rfl
    omega
  rw [powMod_eq N f a _ (by omega)] at h1
  rw [powMod_eq N f a _ hqc] at h2
  exact pock_step hl hd hN hq hc h1 h2

theorem big_of_dvd {N F l : Nat} (hl : Prime l) (hd : F ∣ l - 1) (h : N < F * F) : N < l * l := by
  have := hl.1
  have h1 := Nat.le_of_dvd (by omega) hd
  exact Nat.lt_of_lt_of_le h (Nat.mul_le_mul (by omega) (by omega))

theorem prime_421987 : Prime 421987 := prime_small 10 (by decide) (by kernel_rfl) (by decide)
theorem prime_755057 : Prime 755057 := prime_small 10 (by decide) (by kernel_rfl) (by decide)
theorem prime_2529403 : Prime 2529403 := prime_small 11 (by decide) (by kernel_rfl) (by decide)
theorem prime_859267 : Prime 859267 := prime_small 10 (by decide) (by kernel_rfl) (by decide)
theorem prime_52437899 : Prime 52437899 := prime_small 13 (by decide) (by kernel_rfl) (by decide)
theorem prime_254760293 : Prime 254760293 := prime_small 14 (by decide) (by kernel_rfl) (by decide)
theorem prime_two : Prime 2 := ⟨by decide, fun m h => by
  have := Nat.le_of_dvd (by decide) h
  have : m ≠ 0 := fun e => by subst e; exact absurd (Nat.eq_zero_of_zero_dvd h) (by decide)
  omega⟩

theorem prime_q3 : Prime 13090036741 := prime_of_big (by decide) fun l hl hd =>
  big_of_dvd hl (pock (q := 421987) (e := 0) (a := 2) (c := 31020) 34 (by decide) prime_421987 (by decide) (by decide) (by kernel_rfl) (by kernel_rfl) l hl hd) (by decide)

theorem coprime_of {a b : Nat} (h : Nat.gcd a b = 1) : Nat.Coprime a b := h

theorem prime_q2 : Prime 3819663927398918131021 := prime_of_big (by decide) fun l hl hd =>
  big_of_dvd hl ((coprime_of (by kernel_rfl)).mul_dvd_of_dvd_of_dvd
    (pock (q := 13090036741) (e := 0) (a := 2) (c := 291799328220) 72 (by decide) prime_q3 (by decide) (by decide) (by kernel_rfl) (by kernel_rfl) l hl hd)
    (pock (q := 755057) (e := 0) (a := 2) (c := 5058775598926860) 72 (by decide) prime_755057 (by decide) (by decide) (by kernel_rfl) (by kernel_rfl) l hl hd)) (by decide)

theorem prime_q1 : Prime 1125266252156850182658904441386709967 := prime_of_big (by decide) fun l hl hd =>
  big_of_dvd hl (pock (q := 3819663927398918131021) (e := 0) (a := 2) (c := 294598235223046) 120 (by decide) prime_q2 (by decide) (by decide) (by kernel_rfl) (by kernel_rfl) l hl hd) (by decide)

theorem prime_q : Prime 15778400344354997994418419698270088123916926905054652752758194827714659 := prime_of_big (by decide) fun l hl hd =>
  big_of_dvd hl (pock (q := 1125266252156850182658904441386709967) (e := 0) (a := 2) (c := 14021926201120671579994175730661374) 234 (by decide) prime_q1 (by decide) (by decide) (by kernel_rfl) (by kernel_rfl) l hl hd) (by decide)

/-- The order of the first field. -/
abbrev pN : Nat := 4002409555221667393417789825735904156556882819939007885332058136124031650490837864442687629129015664037894272559787

theorem prime_p : Prime pN := prime_of_big (by decide) fun l hl hd =>
  big_of_dvd hl (pock (q := 15778400344354997994418419698270088123916926905054652752758194827714659) (e := 0) (a := 2) (c := 253663835868735594330404923636534084567099854) 381 (by decide) prime_q (by decide) (of_decide_eq_true (by kernel_rfl)) (by kernel_rfl) (by kernel_rfl) l hl hd) (by decide)

/-- The groups' order. -/
abbrev rN : Nat := 52435875175126190479447740508185965837690552500527637822603658699938581184513

theorem prime_r : Prime rN := prime_of_big (by decide) fun l hl hd =>
  big_of_dvd hl ((coprime_of (by kernel_rfl)).mul_dvd_of_dvd_of_dvd ((coprime_of (by kernel_rfl)).mul_dvd_of_dvd_of_dvd ((coprime_of (by kernel_rfl)).mul_dvd_of_dvd_of_dvd
    (pock (q := 2) (e := 31) (a := 5) (c := 12208678567578594777604504606729831043093128246378069236549469339647) 255 (by decide) prime_two (by decide) (by decide) (by kernel_rfl) (by kernel_rfl) l hl hd)
    (pock (q := 254760293) (e := 1) (a := 2) (c := 807913828202290508598677772776006232357759729707044766220288) 255 (by decide) prime_254760293 (by decide) (by decide) (by kernel_rfl) (by kernel_rfl) l hl hd))
    (pock (q := 52437899) (e := 0) (a := 2) (c := 999961405302035279473110478895921551656570994587857873989262207090688) 255 (by decide) prime_52437899 (by decide) (by decide) (by kernel_rfl) (by kernel_rfl) l hl hd))
    (pock (q := 2529403) (e := 0) (a := 2) (c := 20730534112249487519168649878325425342537568153642435714120548880482304) 255 (by decide) prime_2529403 (by decide) (by decide) (by kernel_rfl) (by kernel_rfl) l hl hd)) (by decide)

end Go.Sh
