/- The reference's product on words. -/
import Derived.Test.YtbdbmcdcjejffaaFeK
set_option linter.unusedVariables false
set_option linter.unusedSimpArgs false
set_option linter.unusedSectionVars false
namespace Go.Proofs.Ytbdbmcdcjejffaa
open Go Go.Sh

/-- a x + t + w, in two parts, as the reference takes it. -/
def m0T (a x t : UInt64) : UInt64 := adcS t (mulLo a x) ⟨false⟩
def m0W (a x t : UInt64) : UInt64 := u64 (((mulHi a x).toNat : Int) + (cond (adcC t (mulLo a x) ⟨false⟩).on 1 0 : Int))
def mT (a x t w : UInt64) : UInt64 := adcS t (adcS (mulLo a x) w ⟨false⟩) ⟨false⟩
def mW (a x t w : UInt64) : UInt64 := u64 (((u64 (((mulHi a x).toNat : Int) + (cond (adcC (mulLo a x) w ⟨false⟩).on 1 0 : Int))).toNat : Int) + (cond (adcC t (adcS (mulLo a x) w ⟨false⟩) ⟨false⟩).on 1 0 : Int))

theorem cond_n (c : Cy) : (cond c.on 1 0 : Int) = (c.n : Int) := by obtain ⟨b⟩ := c; cases b <;> rfl

theorem mT_eq (a x t w : UInt64) : mT a x t w = maddLo x a t w ∧ mW a x t w = maddHi x a t w := by
  have h1 := mulHi_nat a x
  have h2 := mulLo_nat a x
  have h3 := mul_bound a x
  have h4 := adc_nat (mulLo a x) w ⟨false⟩
  have h5 := adc_nat t (adcS (mulLo a x) w ⟨false⟩) ⟨false⟩
  have l1 := (adcC (mulLo a x) w ⟨false⟩).le
  have l2 := (adcC t (adcS (mulLo a x) w ⟨false⟩) ⟨false⟩).le
  have f : (⟨false⟩ : Cy).n = 0 := rfl
  rw [f] at h4 h5
  have c1 := w.toNat_lt
  have c2 := t.toNat_lt
  have c3 := (adcS t (adcS (mulLo a x) w ⟨false⟩) ⟨false⟩).toNat_lt
  have c4 := (adcS (mulLo a x) w ⟨false⟩).toNat_lt
  have hm : maddN x a t w = a.toNat * x.toNat + t.toNat + w.toNat := by unfold maddN; rw [Nat.mul_comm]
  constructor
  · apply UInt64.toNat_inj.1
    rw [maddLo_nat, hm]
    simp only [mT]
    generalize a.toNat * x.toNat = m at *
    omega
  · apply UInt64.toNat_inj.1
    rw [maddHi_nat, hm]
    simp only [mW, cond_n]
    have e1 : (u64 (((mulHi a x).toNat : Int) + ((adcC (mulLo a x) w ⟨false⟩).n : Int))).toNat = (mulHi a x).toNat + (adcC (mulLo a x) w ⟨false⟩).n := by
      have : (((mulHi a x).toNat : Int) + ((adcC (mulLo a x) w ⟨false⟩).n : Int)) = (((mulHi a x).toNat + (adcC (mulLo a x) w ⟨false⟩).n : Nat) : Int) := by simp
      rw [this, u64_nat]
      generalize a.toNat * x.toNat = m at *
      omega
    rw [e1]
    have : ((((mulHi a x).toNat + (adcC (mulLo a x) w ⟨false⟩).n : Nat) : Int) + ((adcC t (adcS (mulLo a x) w ⟨false⟩) ⟨false⟩).n : Int)) = (((mulHi a x).toNat + (adcC (mulLo a x) w ⟨false⟩).n + (adcC t (adcS (mulLo a x) w ⟨false⟩) ⟨false⟩).n : Nat) : Int) := by simp
    rw [this, u64_nat]
    generalize a.toNat * x.toNat = m at *
    omega

theorem m0T_eq (a x t : UInt64) : m0T a x t = maddLo x a t (UInt64.ofNat 0) ∧ m0W a x t = maddHi x a t (UInt64.ofNat 0) := by
  have h1 := mulHi_nat a x
  have h2 := mulLo_nat a x
  have h3 := mul_bound a x
  have h5 := adc_nat t (mulLo a x) ⟨false⟩
  have l2 := (adcC t (mulLo a x) ⟨false⟩).le
  have f : (⟨false⟩ : Cy).n = 0 := rfl
  rw [f] at h5
  have c2 := t.toNat_lt
  have c3 := (adcS t (mulLo a x) ⟨false⟩).toNat_lt
  have z : (UInt64.ofNat 0).toNat = 0 := rfl
  have hm : maddN x a t (UInt64.ofNat 0) = a.toNat * x.toNat + t.toNat := by unfold maddN; rw [Nat.mul_comm, z]; rfl
  constructor
  · apply UInt64.toNat_inj.1
    rw [maddLo_nat, hm]
    simp only [m0T]
    generalize a.toNat * x.toNat = m at *
    omega
  · apply UInt64.toNat_inj.1
    rw [maddHi_nat, hm]
    simp only [m0W, cond_n]
    have : (((mulHi a x).toNat : Int) + ((adcC t (mulLo a x) ⟨false⟩).n : Int)) = (((mulHi a x).toNat + (adcC t (mulLo a x) ⟨false⟩).n : Nat) : Int) := by simp
    rw [this, u64_nat]
    generalize a.toNat * x.toNat = m at *
    omega

/-- One row. -/
def rowR (a t : L6) (x : UInt64) : L6 :=
  let T0 := m0T a.1 x t.1
  let w0 := m0W a.1 x t.1
  let T1 := mT a.2.1 x t.2.1 w0
  let w1 := mW a.2.1 x t.2.1 w0
  let T2 := mT a.2.2.1 x t.2.2.1 w1
  let w2 := mW a.2.2.1 x t.2.2.1 w1
  let T3 := mT a.2.2.2.1 x t.2.2.2.1 w2
  let w3 := mW a.2.2.2.1 x t.2.2.2.1 w2
  let T4 := mT a.2.2.2.2.1 x t.2.2.2.2.1 w3
  let w4 := mW a.2.2.2.2.1 x t.2.2.2.2.1 w3
  let T5 := mT a.2.2.2.2.2 x t.2.2.2.2.2 w4
  let w5 := mW a.2.2.2.2.2 x t.2.2.2.2.2 w4
  let m := u64 ((T0.toNat : Int) * 9940570264628428797)
  let v0 := m0W m p6.1 T0
  let v1 := mW m p6.2.1 T1 v0
  let v2 := mW m p6.2.2.1 T2 v1
  let v3 := mW m p6.2.2.2.1 T3 v2
  let v4 := mW m p6.2.2.2.2.1 T4 v3
  let v5 := mW m p6.2.2.2.2.2 T5 v4
  (mT m p6.2.1 T1 v0, mT m p6.2.2.1 T2 v1, mT m p6.2.2.2.1 T3 v2, mT m p6.2.2.2.2.1 T4 v3, mT m p6.2.2.2.2.2 T5 v4, u64 ((w5.toNat : Int) + v5.toNat))

theorem madd_comm (a b c d : UInt64) : maddLo a b c d = maddLo b a c d ∧ maddHi a b c d = maddHi b a c d := by
  have : maddN a b c d = maddN b a c d := by unfold maddN; rw [Nat.mul_comm]
  unfold maddLo maddHi
  rw [this]
  exact ⟨rfl, rfl⟩

theorem rowR_eq (a t : L6) (x : UInt64) : rowR a t x = rnd a t x := by
  have e1 : ∀ q p l d, maddLo p q l d = maddLo q p l d := fun q p l d => (madd_comm p q l d).1
  simp only [rowR, rnd, fun a x t => (m0T_eq a x t).1, fun a x t => (m0T_eq a x t).2, fun a x t w => (mT_eq a x t w).1, fun a x t w => (mT_eq a x t w).2]
  obtain ⟨q, hq⟩ : ∃ q, q = u64 (((maddLo x a.1 t.1 (UInt64.ofNat 0)).toNat : Int) * 9940570264628428797) := ⟨_, rfl⟩
  simp only [← hq, p6, fun p l d => (madd_comm p q l d).1, fun p l d => (madd_comm p q l d).2]

def tblQ : List (Row A) := rowOf A 148 (fun x : L6 × L6 × Unit => T2.mk (sub6 x.1 x.2.1) (subTop x.1 x.2.1)) :: rowOf A 30 (fun _ : Unit => p6) :: tblB
theorem refPL_ok : Computes A Try.prog 30 (fun _ : Unit => p6) :=
  computes_of_run0 (TblOK.nil _) Try.func30 (by kernel_rfl) (by kernel_rfl) 8 (fun _ _ _ => by kernel_rfl)
theorem tblQ_ok : TblOK Try.prog tblQ := .cons refSubL_ok.row (.cons refPL_ok.row tblB_ok)

/-- The reference's product's loop, at its head. -/
def monSt (a b t : L6) (k : Nat) : St A :=
  ⟨slots 0 322 ([(2, .val false [.p 0 0]), (3, .val false [.p 1 0]), (4, .val false [.p 2 0])] ++ ((sv6 t).zipIdx 5).map (fun x => (x.2, .val false [x.1])) ++ [(11, .val false [.v (.int .i64 k)])]),
   [some ⟨sv6 a, 31, false⟩, some ⟨sv6 b, 31, false⟩, some ⟨lit6, 31, false⟩], 0, [], []⟩

theorem mon_round (a b t : L6) (c : Cfg A) (e1 : c.P = Try.prog) (e2 : c.gl = fun _ => none) (e4 : c.ys = []) (k : Nat) (hk : k < 6) :
    Round c (loopNo Try.f152 3) (monSt a b t k) .normal (monSt a b (rowR a t (lim k b)) (k + 1)) := by
  have : k = 0 ∨ k = 1 ∨ k = 2 ∨ k = 3 ∨ k = 4 ∨ k = 5 := by omega
  rcases this with rfl | rfl | rfl | rfl | rfl | rfl
  · exact Round.of0 tblQ_ok (fun _ _ => .keep) 4 [] (by kernel_rfl) trivial (by kernel_rfl) (by kernel_rfl) e1 e2 rfl e4
  · exact Round.of0 tblQ_ok (fun _ _ => .keep) 4 [] (by kernel_rfl) trivial (by kernel_rfl) (by kernel_rfl) e1 e2 rfl e4
  · exact Round.of0 tblQ_ok (fun _ _ => .keep) 4 [] (by kernel_rfl) trivial (by kernel_rfl) (by kernel_rfl) e1 e2 rfl e4
  · exact Round.of0 tblQ_ok (fun _ _ => .keep) 4 [] (by kernel_rfl) trivial (by kernel_rfl) (by kernel_rfl) e1 e2 rfl e4
  · exact Round.of0 tblQ_ok (fun _ _ => .keep) 4 [] (by kernel_rfl) trivial (by kernel_rfl) (by kernel_rfl) e1 e2 rfl e4
  · exact Round.of0 tblQ_ok (fun _ _ => .keep) 4 [] (by kernel_rfl) trivial (by kernel_rfl) (by kernel_rfl) e1 e2 rfl e4

theorem mon_loop (old : Addr → Option Value) (a b : L6) : SoundFor Try.prog old [] (.loop (loopNo Try.f152 3)) (monSt a b zero6 0) (.exit 0) (monSt a b (mulT b a 6) 6) := by
  intro c e1 e2 _ e4
  refine loopAt (inv := fun k => monSt a b (mulT b a k) k) (N := 6) (by simp) (fun k hk => ?_) ?_
  · have := mon_round a b (mulT b a k) c e1 e2 e4 k hk
    rw [rowR_eq] at this
    exact this
  · obtain ⟨T, hT⟩ : ∃ T, T = mulT b a 6 := ⟨_, rfl⟩
    simp only [← hT]
    exact Round.of0 tblQ_ok (fun _ _ => .keep) 4 [] (by kernel_rfl) trivial (by kernel_rfl) (by kernel_rfl) e1 e2 rfl e4

end Go.Proofs.Ytbdbmcdcjejffaa
