/- The scalar field: the element of any bytes. -/
import Derived.Test.YtaloefkkllebeaaFa4
set_option linter.unusedVariables false
set_option linter.unusedSimpArgs false
set_option linter.unusedSectionVars false
namespace Go.Proofs.Ytaloefkkllebeaa
open Go Go.Sh
def tblQw : List (Row A) := [rowOf A 27 (fun x : Bs × Unit => fromB x.1.l), rowOf A 61 (fun x : Num × Unit => mdF x.1), rowOf A 48 (fun x : Fq × Fq × Unit => x.1 * x.2.1), rowOf A 46 (fun x : Fq × Fq × Unit => x.1 + x.2.1)]
theorem tblQw_ok : TblOK Try.prog tblQw := .cons limbsFrom_ok.row (.cons made'_ok.row (.cons frMul_ok.row (.cons frAdd_ok.row (.nil _))))
/-- 2^128. -/
def qsh : Fq := mdF (numO (0, 0, 1, 0, 0, 0))
theorem qnum_small {l : List UInt8} (h : l.length ≤ 16) : (numOfB l).val = numB l ∧ mdF (numOfB l) = fqN (numB l) := by
  have e : (numOfB l).val = numB l := by unfold numOfB; rw [dif_pos (by omega)]
  refine ⟨e, ?_⟩
  have h1 := numB_cons_le l
  have h2 : (256 : Nat) ^ l.length ≤ 256 ^ 16 := Nat.pow_le_pow_right (by decide) h
  have h3 : (256 : Nat) ^ 16 = 340282366920938463463374607431768211456 := by decide
  rw [mdF_small (by rw [e]; omega), e]

/-- The loop of Wide, at its head. -/
def qwSt (a : Option Addr) (l : List UInt8) (i len cap : Nat) (first : Int) (out : Fq) : St A :=
  ⟨slots 0 35 [(0, .val false [.e a (byteAt l) i len cap]), (2, .val false [.p 0 0]), (3, .val false [.p 1 0]), (4, .val false [.p 2 0]), (5, .val false [.n .i64 first])],
   [some ⟨litq, 59, false⟩, some ⟨[.a (.big (.fr out))], 59, false⟩, some ⟨[.a (.big (.fr qsh))], 59, false⟩], 0, [], []⟩

def qnext (l : List UInt8) (i z : Nat) (out : Fq) : Fq := out * qsh + mdF (numOfB (partB l i z))

theorem qwide_round (W : World) (g : Spot) (l : List UInt8) (hg : HasBytes W l g) (i len cap z : Nat) (first : Int) (out : Fq) (hz : z = if first = 0 then 16 else first.toNat) (hf : 0 ≤ first) (hz1 : z ≤ len) (hz2 : z ≤ 16) (hc : len ≤ cap) (hi : i + len = l.length) (hlen : l.length < 1048576) (h0 : 0 < len)
    (c : Cfg A) (e1 : c.P = Try.prog) (e2 : c.gl = fun _ => none) (e3 : c.old = W.cell?) (e4 : c.ys = []) :
    Round c (loopNo Try.f40 4) (qwSt g.a l i len cap first out) .normal (qwSt g.a l (z + i) (len - z) (cap - z) 16 (qnext l i z out)) := by
  have hpl : (partB l i z).length ≤ 16 := by simp [partB]; exact hz2
  by_cases h : first = 0
  · subst h
    simp only [if_true] at hz
    subst hz
    refine Round.of0 tblQw_ok (says [(15, true), (17, true)]) 4
      [(0 : Int) ≤ 16 ∧ (16 : Int) ≤ len, Reads W.cell? g.a (byteAt (B := FB) l) i 16, ∀ j, j < 16 → isU8 (byteAt (B := FB) l (i + j)) = true, (0 : Int) ≤ 16 ∧ (16 : Int) ≤ cap, ((0 : Int) == 0) = true, decide ((len : Int) > 0) = true]
      (by kernel_rfl) ?_ (by kernel_rfl) (by kernel_rfl) e1 e2 e3 e4
    exact ⟨⟨by omega, by omega⟩, reads_bytes hg (by omega), isU8_bytes l i 16, ⟨by omega, by omega⟩, rfl, decide_eq_true (by omega), trivial⟩
  · rw [if_neg h] at hz
    obtain ⟨n, rfl⟩ := Int.eq_ofNat_of_zero_le hf
    have hzn : z = n := hz
    subst hzn
    refine Round.of0 tblQw_ok (says [(15, true), (17, false)]) 4
      [(0 : Int) ≤ z ∧ (z : Int) ≤ len, Reads W.cell? g.a (byteAt (B := FB) l) i z, ∀ j, j < z → isU8 (byteAt (B := FB) l (i + j)) = true, (0 : Int) ≤ z ∧ (z : Int) ≤ cap, ((z : Int) == 0) = false, decide ((len : Int) > 0) = true]
      (by kernel_rfl) ?_ (by kernel_rfl) (by kernel_rfl) e1 e2 e3 e4
    exact ⟨⟨by omega, by omega⟩, reads_bytes hg (by omega), isU8_bytes l i z, ⟨by omega, by omega⟩, beq_eq_false_iff_ne.2 h, decide_eq_true (by omega), trivial⟩

/-- Where the loop is, how much is left, behind k parts. -/
def qI (n : Nat) : Nat → Nat
  | 0 => 0
  | k + 1 => (if k = 0 then (if n % 16 = 0 then 16 else n % 16) else 16) + qI n k
def qL (n : Nat) : Nat → Nat
  | 0 => n
  | k + 1 => qL n k - (if k = 0 then (if n % 16 = 0 then 16 else n % 16) else 16)
def qC (n c : Nat) : Nat → Nat
  | 0 => c
  | k + 1 => qC n c k - (if k = 0 then (if n % 16 = 0 then 16 else n % 16) else 16)
def qO (l : List UInt8) : Nat → Fq
  | 0 => 0
  | k + 1 => qnext l (qI l.length k) (if k = 0 then (if l.length % 16 = 0 then 16 else l.length % 16) else 16) (qO l k)
def qF (n : Nat) : Nat → Int
  | 0 => (n % 16 : Nat)
  | _ + 1 => 16

theorem qL_eq (n : Nat) : ∀ k, k ≤ (n + 15) / 16 → qL n k = 16 * ((n + 15) / 16 - k) - (if k = 0 then 16 * ((n + 15) / 16) - n else 0)
  | 0, _ => by simp only [qL]; simp; omega
  | 1, h => by simp only [qL]; simp; split <;> omega
  | k + 2, h => by
    have := qL_eq n (k + 1) (by omega)
    simp only [qL] at this ⊢
    simp at this ⊢
    rw [this]
    omega
theorem qI_eq (n : Nat) : ∀ k, k ≤ (n + 15) / 16 → qI n k + qL n k = n
  | 0, _ => by simp [qI, qL]
  | k + 1, h => by
    have h1 := qI_eq n k (by omega)
    have h2 := qL_eq n k (by omega)
    simp only [qI, qL]
    by_cases hk : k = 0
    · subst hk; simp [qI, qL] at *; split <;> omega
    · simp only [hk, if_false] at *; omega
theorem qC_ge (n c : Nat) (h : n ≤ c) : ∀ k, qL n k ≤ qC n c k
  | 0 => h
  | k + 1 => by have := qC_ge n c h k; simp only [qL, qC]; omega

theorem qwide_loop (W : World) (g : Spot) (l : List UInt8) (hg : HasBytes W l g) (hl : l.length < 1048576) :
    SoundFor Try.prog W.cell? [] (.loop (loopNo Try.f40 4)) (qwSt g.a l 0 l.length g.c ((l.length : Int).tmod 16) 0) (.exit 0)
      (qwSt g.a l (qI l.length ((l.length + 15) / 16)) (qL l.length ((l.length + 15) / 16)) (qC l.length g.c ((l.length + 15) / 16)) (qF l.length ((l.length + 15) / 16)) (qO l ((l.length + 15) / 16))) := by
  intro c e1 e2 e3 e4
  refine loopAt (inv := fun k => qwSt g.a l (qI l.length k) (qL l.length k) (qC l.length g.c k) (qF l.length k) (qO l k)) (N := (l.length + 15) / 16) (by simp) (fun k hk => ?_) ?_
  · have h1 := qL_eq l.length k (by omega)
    have h2 := qI_eq l.length k (by omega)
    have h3 := qC_ge l.length g.c hg.1 k
    have hz : (if k = 0 then (if l.length % 16 = 0 then 16 else l.length % 16) else 16) = if qF l.length k = 0 then 16 else (qF l.length k).toNat := by
      cases k with
      | zero =>
        have hw : qF l.length 0 = ((l.length % 16 : Nat) : Int) := rfl
        rw [if_pos rfl]
        by_cases h : l.length % 16 = 0
        · have : qF l.length 0 = 0 := by rw [hw]; omega
          rw [if_pos h, if_pos this]
        · have : qF l.length 0 ≠ 0 := by rw [hw]; omega
          rw [if_neg h, if_neg this]; rfl
      | succ k => simp [qF]
    have hz1 : (if k = 0 then (if l.length % 16 = 0 then 16 else l.length % 16) else 16) ≤ qL l.length k := by
      cases k with
      | zero => simp only [qL, if_true]; split <;> omega
      | succ k => simp at h1 ⊢; omega
    have hf : 0 ≤ qF l.length k := by cases k <;> simp [qF]; omega
    exact qwide_round W g l hg (qI l.length k) (qL l.length k) (qC l.length g.c k) _ (qF l.length k) (qO l k) hz hf hz1 (by split <;> (try split) <;> omega) h3 h2 hl (by have : 0 < (if k = 0 then (if l.length % 16 = 0 then 16 else l.length % 16) else 16) := (by split <;> (try split) <;> omega); omega) c e1 e2 e3 e4
  · have h1 := qL_eq l.length ((l.length + 15) / 16) (Nat.le_refl _)
    have h0 : qL l.length ((l.length + 15) / 16) = 0 := by rw [h1]; simp
    obtain ⟨L, hL⟩ : ∃ L, L = qL l.length ((l.length + 15) / 16) := ⟨_, rfl⟩
    obtain ⟨I, hI⟩ : ∃ L, L = qI l.length ((l.length + 15) / 16) := ⟨_, rfl⟩
    obtain ⟨C, hC⟩ : ∃ L, L = qC l.length g.c ((l.length + 15) / 16) := ⟨_, rfl⟩
    obtain ⟨F, hF⟩ : ∃ L, L = qF l.length ((l.length + 15) / 16) := ⟨_, rfl⟩
    obtain ⟨O, hO⟩ : ∃ L, L = qO l ((l.length + 15) / 16) := ⟨_, rfl⟩
    simp only [← hL, ← hI, ← hC, ← hF, ← hO]
    rw [← hL] at h0
    exact Round.of0 tblQw_ok (says [(15, false)]) 4 [decide ((L : Int) > 0) = false] (by kernel_rfl) ⟨decide_eq_false (by omega), trivial⟩ (by kernel_rfl) (by kernel_rfl) e1 e2 e3 e4

theorem fqN_add (a b : Nat) : fqN (a + b) = fqN a + fqN b := by
  apply Fin.ext
  show (a + b) % rN = (a % rN + b % rN) % rN
  exact Nat.add_mod a b rN
theorem fqN_mul (a b : Nat) : fqN (a * b) = fqN a * fqN b := by
  apply Fin.ext
  show (a * b) % rN = (a % rN * (b % rN)) % rN
  exact Nat.mul_mod a b rN

theorem qO_eq (l : List UInt8) : ∀ k, k ≤ (l.length + 15) / 16 → qO l k = fqN (numB (l.take (qI l.length k)))
  | 0, _ => by simp [qO, qI, numB, fqN]
  | k + 1, h => by
    have ih := qO_eq l k (by omega)
    obtain ⟨z, hz⟩ : ∃ z, z = (if k = 0 then (if l.length % 16 = 0 then 16 else l.length % 16) else 16) := ⟨_, rfl⟩
    have h1 := qL_eq l.length k (by omega)
    have h2 := qI_eq l.length k (by omega)
    have hz1 : z ≤ qL l.length k := by
      rw [hz]
      cases k with
      | zero => simp only [qL, if_true]; split <;> omega
      | succ k => simp at h1 ⊢; omega
    have hz2 : z ≤ 16 := by rw [hz]; split <;> (try split) <;> omega
    have hIk : qI l.length k = 0 ∨ z = 16 := by
      cases k with
      | zero => exact .inl rfl
      | succ k => right; rw [hz]; simp
    show qnext l (qI l.length k) (if k = 0 then (if l.length % 16 = 0 then 16 else l.length % 16) else 16) (qO l k) = fqN (numB (l.take ((if k = 0 then (if l.length % 16 = 0 then 16 else l.length % 16) else 16) + qI l.length k)))
    rw [← hz]
    have hp := partB_eq l (i := qI l.length k) (n := z) (by omega)
    have hlen : ((l.drop (qI l.length k)).take z).length = z := by simp; omega
    have hs := (qnum_small (l := (l.drop (qI l.length k)).take z) (by omega)).1
    have ht : l.take (z + qI l.length k) = l.take (qI l.length k) ++ (l.drop (qI l.length k)).take z := by rw [Nat.add_comm, List.take_add]
    have hx : mdF (numOfB (partB l (qI l.length k) z)) = fqN (numB ((l.drop (qI l.length k)).take z)) := by
      rw [hp]
      exact (qnum_small (l := (l.drop (qI l.length k)).take z) (by omega)).2
    unfold qnext
    rw [hx, ht, numB_append, fqN_add, fqN_mul, hlen]
    congr 1
    rcases hIk with h0 | h0
    · rw [ih, h0]
      have : fqN (numB (List.take 0 l)) = 0 := by rfl
      rw [this, Fin.zero_mul, Fin.zero_mul]
    · rw [ih, h0]
      rfl

def wideQ (l : List UInt8) : Fq := fqN (numB l)

theorem frWide_ok : Computes A Try.prog 40 (fun x : Bt × Unit => wideQ x.1.l) := by
  refine computes_of_runW tblQw_ok (ITblOK.nil _) Try.func40 (by kernel_rfl) (by kernel_rfl) 4 ?_
  rintro ⟨g, _⟩ ⟨⟨l⟩, ⟨⟩⟩ W ⟨⟨hg, hl⟩, _⟩
  have hs := qwide_loop W g l hg hl
  have ho := qO_eq l _ (Nat.le_refl _)
  have h1 := qL_eq l.length ((l.length + 15) / 16) (Nat.le_refl _)
  have h2 := qI_eq l.length ((l.length + 15) / 16) (Nat.le_refl _)
  have h0 : qL l.length ((l.length + 15) / 16) = 0 := by rw [h1]; simp
  have hi : qI l.length ((l.length + 15) / 16) = l.length := by omega
  rw [hi, List.take_length] at ho
  obtain ⟨L, hL⟩ : ∃ L, L = qL l.length ((l.length + 15) / 16) := ⟨_, rfl⟩
  obtain ⟨I, hI⟩ : ∃ L, L = qI l.length ((l.length + 15) / 16) := ⟨_, rfl⟩
  obtain ⟨C, hC⟩ : ∃ L, L = qC l.length g.c ((l.length + 15) / 16) := ⟨_, rfl⟩
  obtain ⟨F, hF⟩ : ∃ L, L = qF l.length ((l.length + 15) / 16) := ⟨_, rfl⟩
  obtain ⟨O, hO⟩ : ∃ L, L = qO l ((l.length + 15) / 16) := ⟨_, rfl⟩
  rw [← hL, ← hI, ← hC, ← hF, ← hO] at hs
  rw [← hO] at ho
  refine ⟨fun _ _ => .keep, lps [(4, qwSt g.a l 0 l.length g.c ((l.length : Int).tmod 16) 0, .exit 0, qwSt g.a l I L C F O)], O, [ToldIs (qwSt g.a l 0 l.length g.c ((l.length : Int).tmod 16) 0)], (by kernel_rfl), ⟨toldIs _, trivial⟩, ho, ?_⟩
  intro body hb
  refine LoopsFor.cons ?_ hs LoopsFor.nil
  obtain rfl := Option.some.inj hb
  kernel_rfl


end Go.Proofs.Ytaloefkkllebeaa
