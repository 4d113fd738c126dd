/- Any bytes, modulo a number: the reference's. -/
import Derived.Test.YtaloefkkllebeaaRa2
set_option linter.unusedVariables false
set_option linter.unusedSimpArgs false
set_option linter.unusedSectionVars false
namespace Go.Proofs.Ytaloefkkllebeaa
open Go Go.Sh

def achain (S : UInt64 → UInt64 → Cy → UInt64) (C : UInt64 → UInt64 → Cy → Cy) : List UInt64 → Cy → List UInt64
  | [], _ => []
  | t :: ts, c => S t (UInt64.ofNat 0) c :: achain S C ts (C t (UInt64.ofNat 0) c)
def addB (S : UInt64 → UInt64 → Cy → UInt64) (C : UInt64 → UInt64 → Cy → Cy) (f : Nat → UInt64) (x : UInt64) : List UInt64 :=
  S (f 0) x ⟨false⟩ :: achain S C [f 1, f 2, f 3, f 4, f 5, f 6, f 7, f 8, f 9, f 10, f 11] (C (f 0) x ⟨false⟩)
theorem achain_len (ts : List UInt64) : ∀ c, (achain adcS adcC ts c).length = ts.length := by
  induction ts with
  | nil => intro c; rfl
  | cons t ts ih => intro c; simp [achain, ih]
theorem achain_val : ∀ (ts : List UInt64) (c : Cy), ∃ k : Nat, valW (achain adcS adcC ts c) + 18446744073709551616 ^ ts.length * k = valW ts + c.n
  | [], c => ⟨c.n, by simp [achain, valW]⟩
  | t :: ts, c => by
    obtain ⟨k, hk⟩ := achain_val ts (adcC t (UInt64.ofNat 0) c)
    refine ⟨k, ?_⟩
    have h := adc_nat t (UInt64.ofNat 0) c
    have z : (UInt64.ofNat 0).toNat = 0 := rfl
    rw [z] at h
    simp only [achain, valW, List.length_cons, Nat.pow_succ]
    have e : 18446744073709551616 ^ ts.length * 18446744073709551616 * k = 18446744073709551616 * (18446744073709551616 ^ ts.length * k) := by ac_rfl
    rw [e]
    generalize 18446744073709551616 ^ ts.length * k = X at *
    omega
theorem addB_val (t : R64 12) (x : UInt64) (h : v12 t + x.toNat < 18446744073709551616 ^ 12) : valW (addB adcS adcC t.f x) = v12 t + x.toNat := by
  obtain ⟨k, hk⟩ := achain_val [t.f 1, t.f 2, t.f 3, t.f 4, t.f 5, t.f 6, t.f 7, t.f 8, t.f 9, t.f 10, t.f 11] (adcC (t.f 0) x ⟨false⟩)
  have h0 := adc_nat (t.f 0) x ⟨false⟩
  have f0 : (⟨false⟩ : Cy).n = 0 := rfl
  rw [f0] at h0
  have e : v12 t = (t.f 0).toNat + 18446744073709551616 * valW [t.f 1, t.f 2, t.f 3, t.f 4, t.f 5, t.f 6, t.f 7, t.f 8, t.f 9, t.f 10, t.f 11] := rfl
  have l := valW_lt (addB adcS adcC t.f x)
  have hl : (addB adcS adcC t.f x).length = 12 := by simp [addB, achain_len]
  rw [hl] at l
  simp only [addB, valW] at l ⊢
  rw [e] at h ⊢
  simp only [List.length_cons, List.length_nil] at hk
  generalize valW (achain adcS adcC [t.f 1, t.f 2, t.f 3, t.f 4, t.f 5, t.f 6, t.f 7, t.f 8, t.f 9, t.f 10, t.f 11] (adcC (t.f 0) x ⟨false⟩)) = X at *
  generalize valW [t.f 1, t.f 2, t.f 3, t.f 4, t.f 5, t.f 6, t.f 7, t.f 8, t.f 9, t.f 10, t.f 11] = Y at *
  have e12 : (18446744073709551616 : Nat) ^ 12 = 18446744073709551616 * 18446744073709551616 ^ 11 := by rw [Nat.pow_succ, Nat.mul_comm]
  have e11 : (18446744073709551616 : Nat) ^ (0 + 1 + 1 + 1 + 1 + 1 + 1 + 1 + 1 + 1 + 1 + 1) = 18446744073709551616 ^ 11 := rfl
  rw [e11] at hk
  rw [e12] at h l
  generalize (18446744073709551616 : Nat) ^ 11 = P at *
  have : k = 0 := by
    rcases Nat.eq_zero_or_pos k with h1 | h1
    · exact h1
    · have : P * 1 ≤ P * k := Nat.mul_le_mul_left _ h1
      omega
  subst this
  omega

def smallW (n : Nat) : Num := numO (UInt64.ofNat n, UInt64.ofNat 0, UInt64.ofNat 0, UInt64.ofNat 0, UInt64.ofNat 0, UInt64.ofNat 0)
def tblW1 (F : Num → Num → R64 12) (G : R64 12 → Num → Num) (S : UInt64 → UInt64 → Cy → UInt64) (C : UInt64 → UInt64 → Cy → Cy) : List (Row A) :=
  [rowOf A 20 (fun x : Num × Num × Unit => F x.1 x.2.1), rowOf A 22 (fun x : R64 12 × Num × Unit => G x.1 x.2.1), rowOf A 53 (fun x : UInt64 × UInt64 × Cy × Unit => (T2.mk (S x.1 x.2.1 x.2.2.1) (C x.1 x.2.1 x.2.2.1)))]
def rwideSt (g : Spot) (l : List UInt8) (m r : Num) (z : Int) : St A :=
  ⟨slots 0 49 [(0, .val false [.e g.a (byteAt l) 0 l.length g.c]), (3, .val false [.p 0 0]), (4, .val false [.p 1 0]), (5, .val false [.p 2 0]), (6, .val false [.n .i64 z])],
   [some ⟨[.a (.big (.num m))], 27, false⟩, some ⟨lit6, 27, false⟩, some ⟨[.a (.big (.num r))], 27, false⟩], 0, [], []⟩
/-- What is left behind one byte more. -/
def wnext (F : Num → Num → R64 12) (G : R64 12 → Num → Num) (S : UInt64 → UInt64 → Cy → UInt64) (C : UInt64 → UInt64 → Cy → Cy) (m r : Num) (x : UInt8) : Num :=
  G ⟨pickN 0 (addB S C (F r (smallW 256)).f (u64 (x.toNat : Int)))⟩ m
theorem rwide_round (W : World) (g : Spot) (l : List UInt8) (F : Num → Num → R64 12) (G : R64 12 → Num → Num) (S : UInt64 → UInt64 → Cy → UInt64) (C : UInt64 → UInt64 → Cy → Cy) (ht : TblOK Try.prog (tblW1 F G S C)) (m r : Num) (k : Nat)
    (w1 : WrapI ((k : Int) + 1)) (w2 : Reads W.cell? g.a (byteAt (B := FB) l) (k : Int).toNat 1) (w3 : Idx (k : Int) l.length) (w4 : decide ((k : Int) < (l.length : Int)) = true)
    {c : Cfg A} (e1 : c.P = Try.prog) (e2 : c.gl = (fun _ => none)) (e3 : c.old = W.cell?) (e4 : c.ys = []) : Round c (loopNo Try.f41 3) (rwideSt g l m r k) .normal (rwideSt g l m (wnext F G S C m r (l.getD k 0)) ((k : Int) + 1)) :=
  Round.of0 ht (says [(13, true)]) 14 [WrapI ((k : Int) + 1), Reads W.cell? g.a (byteAt (B := FB) l) (k : Int).toNat 1, Idx (k : Int) l.length, decide ((k : Int) < (l.length : Int)) = true] (by kernel_rfl) ⟨w1, w2, w3, w4, trivial⟩ (by kernel_rfl) (by kernel_rfl) e1 e2 e3 e4

def rwideN (l : List UInt8) (m : Num) : Nat → Num
  | 0 => 0
  | k + 1 => wnext (fun a b => n12 (a.val * b.val)) modN adcS adcC m (rwideN l m k) (l.getD k 0)
theorem smallW_val : (smallW 256).val = 256 := by kernel_rfl
theorem modN_zero (t : R64 12) (m : Num) (hm : m.val = 0) : modN t m = 0 := by unfold modN; rw [if_pos hm]
theorem v12_of (l : List UInt64) (h : l.length = 12) : v12 (⟨pickN 0 l⟩ : R64 12) = valW l := by
  have : (⟨pickN 0 l⟩ : R64 12).list = l := range_pickN 0 l 12 h
  unfold v12
  rw [this]
theorem wnext_aux (t : R64 12) (x : UInt8) (n : Nat) (hv : v12 t = n) (hn : n + 256 ≤ 18446744073709551616 ^ 12) : v12 (⟨pickN 0 (addB adcS adcC t.f (u64 (x.toNat : Int)))⟩ : R64 12) = n + x.toNat := by
  have hx : x.toNat < 256 := x.toNat_lt
  have hu : (u64 (x.toNat : Int)).toNat = x.toNat := by rw [u64_nat]; omega
  have hl : (addB adcS adcC t.f (u64 (x.toNat : Int))).length = 12 := by simp [addB, achain_len]
  have h2 : v12 t + (u64 (x.toNat : Int)).toNat < 18446744073709551616 ^ 12 := by
    rw [hv, hu]
    generalize (18446744073709551616 : Nat) ^ 12 = P at *
    omega
  rw [v12_of _ hl, addB_val t _ h2, hv, hu]
theorem wnext_val (m r : Num) (x : UInt8) (hm : m.val ≠ 0) : (wnext (fun a b => n12 (a.val * b.val)) modN adcS adcC m r x).val = (256 * r.val + x.toNat) % m.val := by
  have hr := r.isLt
  have hp := pow768
  have hv : v12 (n12 (r.val * (smallW 256).val)) = 256 * r.val := by
    rw [v12_n12, smallW_val, Nat.mul_comm]
    refine Nat.mod_eq_of_lt ?_
    rw [hp]; omega
  have h := wnext_aux (n12 (r.val * (smallW 256).val)) x (256 * r.val) hv (by rw [hp]; omega)
  rw [← h]
  exact modN_val _ m hm
theorem rwideN_val (l : List UInt8) (m : Num) (hm : m.val ≠ 0) : ∀ k, k ≤ l.length → (rwideN l m k).val = numB (l.take k) % m.val
  | 0, _ => by simp [rwideN, numB]
  | k + 1, hk => by
    have hlt : k < l.length := by omega
    rw [List.take_succ_eq_append_getElem hlt, numB_snoc]
    show (wnext _ _ _ _ m (rwideN l m k) (l.getD k 0)).val = _
    rw [wnext_val _ _ _ hm, rwideN_val l m hm k (by omega)]
    have : l.getD k 0 = l[k] := by simp [List.getD_eq_getElem?_getD, hlt]
    rw [this, Nat.add_mod, Nat.mul_mod, Nat.mod_mod, ← Nat.mul_mod, ← Nat.add_mod]
theorem rwide_loop (W : World) (g : Spot) (l : List UInt8) (hg : HasBytes W l g) (hl : l.length < 1048576) (ht : TblOK Try.prog (tblW1 (fun a b => n12 (a.val * b.val)) modN adcS adcC)) (m : Num) :
    SoundFor Try.prog W.cell? [] (.loop (loopNo Try.f41 3)) (rwideSt g l m 0 0) (.exit 0) (rwideSt g l m (rwideN l m l.length) l.length) := by
  intro c e1 e2 e3 e4
  refine loopAt (inv := fun k => rwideSt g l m (rwideN l m k) k) (N := l.length) (by simp) (fun k hk => ?_) ?_
  · exact rwide_round W g l _ _ _ _ ht m (rwideN l m k) k (wrapI (by omega) (by omega)) (reads_bytes hg (by omega)) ⟨by omega, by omega⟩ (decide_eq_true (by omega)) e1 e2 e3 e4
  · generalize rwideN l m l.length = r
    exact Round.of0 ht (says [(13, false)]) 4 [decide ((l.length : Int) < (l.length : Int)) = false] (by kernel_rfl) ⟨decide_eq_false (by omega), trivial⟩ (by kernel_rfl) (by kernel_rfl) e1 e2 e3 e4
theorem refWide_of (ht : TblOK Try.prog (tblW1 (fun a b => n12 (a.val * b.val)) modN adcS adcC)) : Computes A Try.prog 41 (fun x : Bt × Num × Unit => rwideN x.1.l x.2.1 x.1.l.length) := by
  refine computes_of_runW ht (ITblOK.nil _) Try.func41 (by kernel_rfl) (by kernel_rfl) 4 ?_
  rintro ⟨g, _⟩ ⟨⟨l⟩, m, ⟨⟩⟩ W ⟨⟨hg, hl⟩, _⟩
  have hs := rwide_loop W g l hg hl ht m
  show ∃ orc lp y vc, _ ∧ All vc ∧ y = rwideN l m l.length ∧ _
  revert hs
  generalize rwideN l m l.length = r
  intro hs
  refine ⟨fun _ _ => .keep, lps [(3, rwideSt g l m 0 0, .exit 0, rwideSt g l m r l.length)], r, [ToldIs (rwideSt g l m 0 0)], by kernel_rfl, ⟨toldIs _, trivial⟩, rfl, fun body hb => ?_⟩
  refine LoopsFor.cons ?_ hs LoopsFor.nil
  obtain rfl := Option.some.inj hb
  kernel_rfl
/-- Any bytes modulo a number. -/
theorem rwideN_all (l : List UInt8) (m : Num) (hm : m.val ≠ 0) : (rwideN l m l.length).val = numB l % m.val := by
  rw [rwideN_val l m hm _ (Nat.le_refl _), List.take_length]
end Go.Proofs.Ytaloefkkllebeaa
