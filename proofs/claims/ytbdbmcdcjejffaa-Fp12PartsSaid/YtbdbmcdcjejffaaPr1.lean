/- Primes: Fermat's little theorem, Pocklington's test; plain mathematics of whole numbers. -/
import Derived.KernelRfl
set_option linter.unusedVariables false
set_option linter.unusedSimpArgs false
set_option linter.unusedSectionVars false
namespace Go.Sh

def Prime (n : Nat) : Prop := 2 ≤ n ∧ ∀ m, m ∣ n → m = 1 ∨ m = n

theorem exists_prime (n : Nat) (h : 2 ≤ n) : ∃ l, Prime l ∧ l ∣ n := by
  induction n using Nat.strongRecOn with
  | _ n ih =>
    by_cases hp : ∀ m, m ∣ n → m = 1 ∨ m = n
    · exact ⟨n, ⟨h, hp⟩, Nat.dvd_refl n⟩
    · simp only [Classical.not_forall] at hp
      obtain ⟨m, hm, hne⟩ := hp
      have h0 : 0 < m := Nat.pos_of_dvd_of_pos hm (by omega)
      have h1 : m ≤ n := Nat.le_of_dvd (by omega) hm
      obtain ⟨l, h2, h3⟩ := ih m (by omega) (by omega)
      exact ⟨l, h2, Nat.dvd_trans h3 hm⟩

theorem Prime.coprime {l a : Nat} (h : Prime l) (ha : ¬ l ∣ a) : Nat.Coprime l a := by
  rcases h.2 (Nat.gcd l a) (Nat.gcd_dvd_left l a) with e | e
  · exact e
  · exact absurd (e ▸ Nat.gcd_dvd_right l a) ha

theorem Prime.dvd_mul {l a b : Nat} (h : Prime l) (hd : l ∣ a * b) : l ∣ a ∨ l ∣ b := by
  by_cases ha : l ∣ a
  · exact .inl ha
  · exact .inr ((h.coprime ha).dvd_of_dvd_mul_left hd)

/-! ### Fermat -/

theorem perm_of_nodup {α : Type} [DecidableEq α] : ∀ {l r : List α}, l.Nodup → (∀ x ∈ l, x ∈ r) → r.length ≤ l.length → l.Perm r
  | [], r, _, _, h => by
    have : r = [] := List.length_eq_zero_iff.1 (by simpa using h)
    subst this; exact .nil
  | x :: l, r, hn, hs, h => by
    have hx : x ∈ r := hs x (by simp)
    have hn' := List.nodup_cons.1 hn
    have ih : l.Perm (r.erase x) := perm_of_nodup hn'.2 (fun y hy => by
      have hne : y ≠ x := fun e => hn'.1 (e ▸ hy)
      exact (List.mem_erase_of_ne hne).2 (hs y (by simp [hy]))) (by rw [List.length_erase_of_mem hx]; simp at h; omega)
    exact (ih.cons x).trans (List.perm_cons_erase hx).symm

def prodM (l : List Nat) : Nat := l.foldr (· * ·) 1

theorem prodM_perm {l r : List Nat} (h : l.Perm r) : prodM l = prodM r := by
  induction h with
  | nil => rfl
  | cons x _ ih => show x * prodM _ = x * prodM _; rw [ih]
  | swap x y l => show y * (x * prodM l) = x * (y * prodM l); exact Nat.mul_left_comm _ _ _
  | trans _ _ h1 h2 => exact h1.trans h2

theorem prodM_map (p a : Nat) : ∀ l : List Nat, prodM (l.map fun x => a * x % p) % p = (a ^ l.length * prodM l) % p
  | [] => by simp [prodM]
  | x :: l => by
    show (a * x % p * prodM (l.map fun x => a * x % p)) % p = (a ^ (l.length + 1) * (x * prodM l)) % p
    rw [Nat.mul_mod, Nat.mod_mod, prodM_map p a l, ← Nat.mul_mod]
    congr 1
    rw [Nat.pow_succ]
    ac_rfl

theorem prodM_unit {p : Nat} (hp : Prime p) : ∀ l : List Nat, (∀ x ∈ l, ¬ p ∣ x) → ¬ p ∣ prodM l
  | [], _ => fun h => by
    have := Nat.le_of_dvd (by decide) h
    have h2 := hp.1
    have : p ≤ 1 := this
    omega
  | x :: l, h => fun hd => by
    rcases hp.dvd_mul (show p ∣ x * prodM l from hd) with h1 | h1
    · exact h x (by simp) h1
    · exact prodM_unit hp l (fun y hy => h y (by simp [hy])) h1

theorem dvd_sub_of_mod {p a b : Nat} (h : a % p = b % p) (hab : b ≤ a) : p ∣ a - b := by
  have h1 := Nat.div_add_mod a p
  have h2 := Nat.div_add_mod b p
  have h3 : b / p ≤ a / p := Nat.div_le_div_right hab
  refine ⟨a / p - b / p, ?_⟩
  rw [Nat.mul_sub]
  omega

theorem fermat {p a : Nat} (hp : Prime p) (ha : ¬ p ∣ a) : a ^ (p - 1) % p = 1 := by
  have h2 := hp.1
  let l := List.range' 1 (p - 1)
  have hl : ∀ x ∈ l, 1 ≤ x ∧ x < p := fun x hx => by
    have := List.mem_range'_1.1 hx
    omega
  have hnd : ∀ x ∈ l, ¬ p ∣ x := fun x hx hd => by
    have := Nat.le_of_dvd (by have := hl x hx; omega) hd
    have := hl x hx
    omega
  have inj : ∀ x ∈ l, ∀ y ∈ l, a * x % p = a * y % p → x = y := by
    have key : ∀ x ∈ l, ∀ y ∈ l, x ≤ y → a * x % p = a * y % p → x = y := by
      intro x hx y hy hxy e
      have hd : p ∣ a * y - a * x := dvd_sub_of_mod e.symm (Nat.mul_le_mul_left a hxy)
      rw [← Nat.mul_sub] at hd
      rcases hp.dvd_mul hd with h1 | h1
      · exact absurd h1 ha
      · have := hl y hy
        rcases Nat.eq_zero_or_pos (y - x) with h3 | h3
        · omega
        · have := Nat.le_of_dvd h3 h1
          omega
    intro x hx y hy e
    rcases Nat.le_total x y with h | h
    · exact key x hx y hy h e
    · exact (key y hy x hx h e.symm).symm
  have hnodup : (l.map fun x => a * x % p).Nodup := by
    unfold List.Nodup
    rw [List.pairwise_map]
    have hn : l.Pairwise (· ≠ ·) := List.nodup_range'
    refine hn.imp_of_mem (fun {x y} hx hy hne e => hne (inj x hx y hy e))
  have hperm : (l.map fun x => a * x % p).Perm l := perm_of_nodup hnodup (fun y hy => by
    obtain ⟨x, hx, rfl⟩ := List.mem_map.1 hy
    refine List.mem_range'_1.2 ⟨?_, ?_⟩
    · rcases Nat.eq_zero_or_pos (a * x % p) with h0 | h0
      · rcases hp.dvd_mul (Nat.dvd_of_mod_eq_zero h0) with h1 | h1
        · exact absurd h1 ha
        · exact absurd h1 (hnd x hx)
      · exact h0
    · have := Nat.mod_lt (a * x) (show 0 < p by omega)
      omega) (by simp)
  have e := prodM_map p a l
  rw [prodM_perm hperm] at e
  have hlen : l.length = p - 1 := by simp [l]
  rw [hlen] at e
  have hunit := prodM_unit hp l hnd
  have hpos : 0 < a := by rcases Nat.eq_zero_or_pos a with h | h; · exact absurd (h ▸ Nat.dvd_zero p) ha
                          · exact h
  have hge : 1 ≤ a ^ (p - 1) := Nat.pow_pos hpos
  have hd : p ∣ a ^ (p - 1) * prodM l - prodM l := dvd_sub_of_mod e.symm (Nat.le_mul_of_pos_left _ hge)
  have e2 : a ^ (p - 1) * prodM l - prodM l = (a ^ (p - 1) - 1) * prodM l := by rw [Nat.sub_mul, Nat.one_mul]
  rw [e2] at hd
  rcases hp.dvd_mul hd with h1 | h1
  · obtain ⟨k, hk⟩ := h1
    have : a ^ (p - 1) = p * k + 1 := by omega
    rw [this, Nat.mul_add_mod]
    exact Nat.mod_eq_of_lt (by omega)
  · exact absurd h1 hunit

/-! ### Pocklington -/

theorem pow_gcd {l a : Nat} : ∀ m n : Nat, a ^ m % l = 1 % l → a ^ n % l = 1 % l → a ^ Nat.gcd m n % l = 1 % l := by
  intro m n
  induction m, n using Nat.gcd.induction with
  | H0 n => intro _ h; simpa using h
  | H1 m n hm ih =>
    intro h1 h2
    rw [Nat.gcd_rec]
    refine ih ?_ h1
    have e : a ^ n = (a ^ m) ^ (n / m) * a ^ (n % m) := by rw [← Nat.pow_mul, ← Nat.pow_add, Nat.div_add_mod]
    rw [e, Nat.mul_mod, Nat.pow_mod, h1, ← Nat.pow_mod, Nat.one_pow, ← Nat.mul_mod, Nat.one_mul] at h2
    exact h2

/-- A power modulo n, by squaring. -/
def powMod (n : Nat) : Nat → Nat → Nat → Nat
  | 0, _, _ => 1 % n
  | f + 1, a, e => if e = 0 then 1 % n else if e % 2 = 1 then a * powMod n f (a * a % n) (e / 2) % n else powMod n f (a * a % n) (e / 2)

theorem powMod_eq (n : Nat) : ∀ (f a e : Nat), e < 2 ^ f → powMod n f a e = a ^ e % n
  | 0, a, e, h => by
    have : e = 0 := by simpa using h
    subst this; simp [powMod]
  | f + 1, a, e, h => by
    unfold powMod
    split
    · rename_i h0; subst h0; simp
    · have ih := powMod_eq n f (a * a % n) (e / 2) (by rw [Nat.pow_succ] at h; omega)
      have e2 : (a * a % n) ^ (e / 2) % n = a ^ (2 * (e / 2)) % n := by rw [← Nat.pow_mod, Nat.pow_mul, Nat.pow_two]
      rw [ih, e2]
      split
      · rename_i h1
        have h3 : e = 2 * (e / 2) + 1 := by omega
        rw [Nat.mul_mod, Nat.mod_mod, ← Nat.mul_mod]
        conv => rhs; rw [h3, Nat.pow_succ, Nat.mul_comm]
      · rename_i h1
        have h3 : e = 2 * (e / 2) := by omega
        conv => rhs; rw [h3]

/-- Of a prime power q^e that comes in N - 1 just so often: each prime divisor of N is 1 modulo it. -/
theorem pock_step {N q e a l : Nat} (hl : Prime l) (hlN : l ∣ N) (hN : 2 ≤ N) (hq : Prime q) {c : Nat} (hc : N - 1 = q ^ (e + 1) * c) (h1 : a ^ (N - 1) % N = 1) (h2 : Nat.gcd (a ^ (q ^ e * c) % N + (N - 1)) N = 1) : q ^ (e + 1) ∣ l - 1 := by
  have hl2 := hl.1
  have mods : ∀ x y : Nat, x % N = y % N → x % l = y % l := fun x y e => by
    rw [← Nat.mod_mod_of_dvd x hlN, e, Nat.mod_mod_of_dvd y hlN]
  have hNl : a ^ (N - 1) % l = 1 % l := mods _ _ (by rw [h1, Nat.mod_eq_of_lt (by omega)])
  have hla : ¬ l ∣ a := fun hd => by
    have : l ∣ a ^ (N - 1) := Nat.dvd_trans hd ⟨a ^ (N - 2), by rw [Nat.mul_comm, ← Nat.pow_succ]; congr 1; omega⟩
    have h0 := Nat.mod_eq_zero_of_dvd this
    rw [h0, Nat.mod_eq_of_lt (by omega)] at hNl
    omega
  have hf := fermat hl hla
  have hg := pow_gcd (l := l) (a := a) (N - 1) (l - 1) hNl (by rw [hf, Nat.mod_eq_of_lt (by omega)])
  -- if q^(e+1) does not divide l - 1, the greatest common divisor divides q^e c
  false_or_by_contra
  rename_i hnd
  have hgd : Nat.gcd (N - 1) (l - 1) ∣ q ^ e * c := by
    obtain ⟨k, hk⟩ := Nat.gcd_dvd_left (N - 1) (l - 1)
    rw [hc] at hk
    -- g * k = q^(e+1) * c: if q divides k, strike it; else q^(e+1) divides g
    by_cases hqk : q ∣ k
    · obtain ⟨k', rfl⟩ := hqk
      refine ⟨k', ?_⟩
      have hq0 : 0 < q := by have := hq.1; omega
      refine Nat.eq_of_mul_eq_mul_left hq0 ?_
      rw [hc]
      calc q * (q ^ e * c) = q ^ (e + 1) * c := by rw [Nat.pow_succ]; ac_rfl
        _ = Nat.gcd (q ^ (e + 1) * c) (l - 1) * (q * k') := hk
        _ = q * (Nat.gcd (q ^ (e + 1) * c) (l - 1) * k') := by ac_rfl
    · exfalso
      have hcop : Nat.Coprime (q ^ (e + 1)) k := Nat.Coprime.pow_left _ (hq.coprime hqk)
      have : q ^ (e + 1) ∣ Nat.gcd (N - 1) (l - 1) * k := ⟨c, by rw [hc]; exact hk.symm⟩
      exact hnd (Nat.dvd_trans (hcop.dvd_of_dvd_mul_right this) (Nat.gcd_dvd_right _ _))
  obtain ⟨k, hk⟩ := hgd
  have h3 : a ^ (q ^ e * c) % l = 1 % l := by rw [hk, Nat.pow_mul, Nat.pow_mod, hg, ← Nat.pow_mod, Nat.one_pow]
  have h4 : l ∣ a ^ (q ^ e * c) % N + (N - 1) := by
    have h5 : (a ^ (q ^ e * c) % N) % l = 1 % l := by rw [Nat.mod_mod_of_dvd _ hlN, h3]
    obtain ⟨k2, hk2⟩ := hlN
    have h6 : (a ^ (q ^ e * c) % N + (N - 1)) % l = 0 := by
      rw [Nat.add_mod, h5, ← Nat.add_mod, show 1 + (N - 1) = N by omega, hk2, Nat.mul_mod_right]
    exact Nat.dvd_of_mod_eq_zero h6
  have h7 := Nat.dvd_gcd h4 hlN
  rw [h2] at h7
  have := Nat.le_of_dvd (by decide) h7
  omega

/-- All prime divisors greater than the root: a prime. -/
theorem prime_of_big {N : Nat} (hN : 2 ≤ N) (h : ∀ l, Prime l → l ∣ N → N < l * l) : Prime N := by
  obtain ⟨l, hl, hd⟩ := exists_prime N hN
  obtain ⟨k, hk⟩ := hd
  have h1 := h l hl ⟨k, hk⟩
  by_cases hk1 : k = 1
  · subst hk1
    rw [Nat.mul_one] at hk
    rw [hk]; exact hl
  · exfalso
    have hk2 : 2 ≤ k := by
      rcases Nat.lt_or_ge k 2 with h2 | h2
      · have : k = 0 := by omega
        subst this
        omega
      · exact h2
    obtain ⟨l2, hl2, hd2⟩ := exists_prime k hk2
    have h3 := h l2 hl2 (hk ▸ Nat.dvd_trans hd2 (Nat.dvd_mul_left k l))
    have hkl : k < l := by
      rw [hk] at h1
      exact Nat.lt_of_mul_lt_mul_left h1
    have h4 : l2 ≤ k := Nat.le_of_dvd (by omega) hd2
    have h5 : l2 * l2 ≤ l * k := Nat.mul_le_mul (by omega) h4
    omega

end Go.Sh

/- The two orders p and r are primes: by Pocklington's test, down to small primes. -/
namespace Go.Sh

/-- None of the 2^k numbers from lo on divides n. -/
def noDiv (n : Nat) : Nat → Nat → Bool
  | 0, lo => !(Nat.beq (n % lo) 0)
  | k + 1, lo => match noDiv n k lo with | true => noDiv n k (lo + 2 ^ k) | false => false

theorem noDiv_spec {n : Nat} : ∀ {k lo : Nat}, noDiv n k lo = true → ∀ d, lo ≤ d → d < lo + 2 ^ k → ¬ d ∣ n
  | 0, lo, h, d, h1, h2, hd => by
    have : d = lo := by simp at h2; omega
    subst this
    rw [noDiv, Nat.mod_eq_zero_of_dvd hd] at h
    exact absurd h (by decide)
  | k + 1, lo, h, d, h1, h2, hd => by
    simp only [noDiv] at h
    split at h
    · rename_i h3
      rcases Nat.lt_or_ge d (lo + 2 ^ k) with h4 | h4
      · exact noDiv_spec h3 d h1 h4 hd
      · exact noDiv_spec h d h4 (by rw [Nat.pow_succ] at h2; omega) hd
    · cases h

theorem prime_small {n : Nat} (k : Nat) (hn : 2 ≤ n) (h : noDiv n k 2 = true) (hk : n < (2 + 2 ^ k) * (2 + 2 ^ k)) : Prime n := by
  refine prime_of_big hn (fun l hl hd => ?_)
  have hl2 := hl.1
  rcases Nat.lt_or_ge l (2 + 2 ^ k) with h1 | h1
  · exact absurd hd (noDiv_spec h l hl2 h1)
  · exact Nat.lt_of_lt_of_le hk (Nat.mul_le_mul h1 h1)

theorem pock {N q e a c : Nat} (f : Nat) (hN : 2 ≤ N) (hq : Prime q) (hc : N - 1 = q ^ (e + 1) * c) (hb : N < 2 ^ f) (h1 : powMod N f a (N - 1) = 1) (h2 : Nat.gcd (powMod N f a (q ^ e * c) + (N - 1)) N = 1) :
    ∀ l, Prime l → l ∣ N → q ^ (e + 1) ∣ l - 1 := by
  intro l hl hd
  have hqc : q ^ e * c < 2 ^ f := by
    have : q ^ e * c ≤ N - 1 := by
      rw [hc, Nat.pow_succ]
      have hq1 := hq.1
      calc q ^ e * c ≤ (q ^ e * c) * q := Nat.le_mul_of_pos_right _ (by omega)
        _ = q ^ e * q * c := by ac_rfl
    omega
  rw [powMod_eq N f a _ (by omega)] at h1
  rw [powMod_eq N f a _ hqc] at h2
  exact pock_step hl hd hN hq hc h1 h2

theorem big_of_dvd {N F l : Nat} (hl : Prime l) (hd : F ∣ l - 1) (h : N < F * F) : N < l * l := by
  have := hl.1
  have h1 := Nat.le_of_dvd (by omega) hd
  exact Nat.lt_of_lt_of_le h (Nat.mul_le_mul (by omega) (by omega))

theorem prime_421987 : Prime 421987 := prime_small 10 (by decide) (by kernel_rfl) (by decide)
theorem prime_755057 : Prime 755057 := prime_small 10 (by decide) (by kernel_rfl) (by decide)
theorem prime_2529403 : Prime 2529403 := prime_small 11 (by decide) (by kernel_rfl) (by decide)
theorem prime_859267 : Prime 859267 := prime_small 10 (by decide) (by kernel_rfl) (by decide)
theorem prime_52437899 : Prime 52437899 := prime_small 13 (by decide) (by kernel_rfl) (by decide)
theorem prime_254760293 : Prime 254760293 := prime_small 14 (by decide) (by kernel_rfl) (by decide)
theorem prime_two : Prime 2 := ⟨by decide, fun m h => by
  have := Nat.le_of_dvd (by decide) h
  have : m ≠ 0 := fun e => by subst e; exact absurd (Nat.eq_zero_of_zero_dvd h) (by decide)
  omega⟩

theorem prime_q3 : Prime 13090036741 := prime_of_big (by decide) fun l hl hd =>
  big_of_dvd hl (pock (q := 421987) (e := 0) (a := 2) (c := 31020) 34 (by decide) prime_421987 (by decide) (by decide) (by kernel_rfl) (by kernel_rfl) l hl hd) (by decide)

theorem coprime_of {a b : Nat} (h : Nat.gcd a b = 1) : Nat.Coprime a b := h

theorem prime_q2 : Prime 3819663927398918131021 := prime_of_big (by decide) fun l hl hd =>
  big_of_dvd hl ((coprime_of (by kernel_rfl)).mul_dvd_of_dvd_of_dvd
    (pock (q := 13090036741) (e := 0) (a := 2) (c := 291799328220) 72 (by decide) prime_q3 (by decide) (by decide) (by kernel_rfl) (by kernel_rfl) l hl hd)
    (pock (q := 755057) (e := 0) (a := 2) (c := 5058775598926860) 72 (by decide) prime_755057 (by decide) (by decide) (by kernel_rfl) (by kernel_rfl) l hl hd)) (by decide)

theorem prime_q1 : Prime 1125266252156850182658904441386709967 := prime_of_big (by decide) fun l hl hd =>
  big_of_dvd hl (pock (q := 3819663927398918131021) (e := 0) (a := 2) (c := 294598235223046) 120 (by decide) prime_q2 (by decide) (by decide) (by kernel_rfl) (by kernel_rfl) l hl hd) (by decide)

theorem prime_q : Prime 15778400344354997994418419698270088123916926905054652752758194827714659 := prime_of_big (by decide) fun l hl hd =>
  big_of_dvd hl (pock (q := 1125266252156850182658904441386709967) (e := 0) (a := 2) (c := 14021926201120671579994175730661374) 234 (by decide) prime_q1 (by decide) (by decide) (by kernel_rfl) (by kernel_rfl) l hl hd) (by decide)

/-- The order of the first field. -/
abbrev pN : Nat := 4002409555221667393417789825735904156556882819939007885332058136124031650490837864442687629129015664037894272559787

theorem prime_p : Prime pN := prime_of_big (by decide) fun l hl hd =>
  big_of_dvd hl (pock (q := 15778400344354997994418419698270088123916926905054652752758194827714659) (e := 0) (a := 2) (c := 253663835868735594330404923636534084567099854) 381 (by decide) prime_q (by decide) (of_decide_eq_true (by kernel_rfl)) (by kernel_rfl) (by kernel_rfl) l hl hd) (by decide)

/-- The groups' order. -/
abbrev rN : Nat := 52435875175126190479447740508185965837690552500527637822603658699938581184513

theorem prime_r : Prime rN := prime_of_big (by decide) fun l hl hd =>
  big_of_dvd hl ((coprime_of (by kernel_rfl)).mul_dvd_of_dvd_of_dvd ((coprime_of (by kernel_rfl)).mul_dvd_of_dvd_of_dvd ((coprime_of (by kernel_rfl)).mul_dvd_of_dvd_of_dvd
    (pock (q := 2) (e := 31) (a := 5) (c := 12208678567578594777604504606729831043093128246378069236549469339647) 255 (by decide) prime_two (by decide) (by decide) (by kernel_rfl) (by kernel_rfl) l hl hd)
    (pock (q := 254760293) (e := 1) (a := 2) (c := 807913828202290508598677772776006232357759729707044766220288) 255 (by decide) prime_254760293 (by decide) (by decide) (by kernel_rfl) (by kernel_rfl) l hl hd))
    (pock (q := 52437899) (e := 0) (a := 2) (c := 999961405302035279473110478895921551656570994587857873989262207090688) 255 (by decide) prime_52437899 (by decide) (by decide) (by kernel_rfl) (by kernel_rfl) l hl hd))
    (pock (q := 2529403) (e := 0) (a := 2) (c := 20730534112249487519168649878325425342537568153642435714120548880482304) 255 (by decide) prime_2529403 (by decide) (by decide) (by kernel_rfl) (by kernel_rfl) l hl hd)) (by decide)

end Go.Sh
