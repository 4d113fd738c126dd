/- Fp: the element of any bytes. -/
import Derived.Test.YtbdbmcdcjejffaaFeJ
set_option linter.unusedVariables false
set_option linter.unusedSimpArgs false
set_option linter.unusedSectionVars false
namespace Go.Proofs.Ytbdbmcdcjejffaa
open Go Go.Sh

def tblP : List (Row A) := [rowOf A 144 (fun x : Bs × Unit => fromB x.1.l), rowOf A 147 (fun x : Pl × Unit => x.1.x), rowOf A 45 (fun x : Fp × Fp × Unit => x.1 * x.2.1), rowOf A 41 (fun x : Fp × Fp × Unit => x.1 + x.2.1)]
theorem tblP_ok : TblOK Try.prog tblP := .cons limbsFrom_ok.row (.cons made_ok.row (.cons mul_ok.row (.cons add_ok.row (.nil _))))

/-- 2^256. -/
def shF : Fp := (plOf (numO (0, 0, 0, 0, 1, 0))).x

/-- A part of bytes, as they are read. -/
def partB (l : List UInt8) (i n : Nat) : List UInt8 := (List.range n).map fun j => u8of (byteAt (B := FB) l (i + j))

/-- The loop of Wide, at its head. -/
def wideSt (a : Option Addr) (l : List UInt8) (i len cap : Nat) (first : Int) (out : Fp) : St A :=
  ⟨slots 0 35 [(0, .val false [.e a (byteAt l) i len cap]), (2, .val false [.p 0 0]), (3, .val false [.p 1 0]), (4, .val false [.p 2 0]), (5, .val false [.n .i64 first])],
   [some ⟨lit6, 28, false⟩, some ⟨[.a (.big (.fp out))], 28, false⟩, some ⟨[.a (.big (.fp shF))], 28, false⟩], 0, [], []⟩

def nextF (l : List UInt8) (i z : Nat) (out : Fp) : Fp := out * shF + (plOf (numOfB (partB l i z))).x

theorem partB_eq (l : List UInt8) {i n : Nat} (h : i + n ≤ l.length) : partB l i n = (l.drop i).take n := bytes_part l h

theorem numOfB_small {l : List UInt8} (h : l.length ≤ 32) : (numOfB l).val = numB l ∧ (numOfB l).val < pN := by
  have e : (numOfB l).val = numB l := by unfold numOfB; rw [dif_pos (by omega)]
  refine ⟨e, ?_⟩
  rw [e]
  have h1 := numB_cons_le l
  have h2 : (256 : Nat) ^ l.length ≤ 256 ^ 32 := Nat.pow_le_pow_right (by decide) h
  have h3 : (256 : Nat) ^ 32 < pN := by rw [pN_val]; decide
  omega

theorem wide_round (W : World) (g : Spot) (l : List UInt8) (hg : HasBytes W l g) (i len cap z : Nat) (first : Int) (out : Fp) (hz : z = if first = 0 then 32 else first.toNat) (hf : 0 ≤ first) (hz1 : z ≤ len) (hz2 : z ≤ 32) (hc : len ≤ cap) (hi : i + len = l.length) (hlen : l.length < 1048576) (h0 : 0 < len)
    (c : Cfg A) (e1 : c.P = Try.prog) (e2 : c.gl = fun _ => none) (e3 : c.old = W.cell?) (e4 : c.ys = []) :
    Round c (loopNo Try.f35 4) (wideSt g.a l i len cap first out) .normal (wideSt g.a l (z + i) (len - z) (cap - z) 32 (nextF l i z out)) := by
  have hpl : (partB l i z).length ≤ 32 := by simp [partB]; exact hz2
  have hsm := (numOfB_small hpl).2
  by_cases h : first = 0
  · subst h
    simp only [if_true] at hz
    subst hz
    refine Round.of0 tblP_ok (says [(15, true), (17, true)]) 4
      [(0 : Int) ≤ 32 ∧ (32 : Int) ≤ len, (numOfB (partB l i 32)).val < pN, Reads W.cell? g.a (byteAt (B := FB) l) i 32, ∀ j, j < 32 → isU8 (byteAt (B := FB) l (i + j)) = true, (0 : Int) ≤ 32 ∧ (32 : Int) ≤ cap, ((0 : Int) == 0) = true, decide ((len : Int) > 0) = true]
      (by kernel_rfl) ?_ (by kernel_rfl) (by kernel_rfl) e1 e2 e3 e4
    exact ⟨⟨by omega, by omega⟩, hsm, reads_bytes hg (by omega), isU8_bytes l i 32, ⟨by omega, by omega⟩, rfl, decide_eq_true (by omega), trivial⟩
  · rw [if_neg h] at hz
    obtain ⟨n, rfl⟩ := Int.eq_ofNat_of_zero_le hf
    have hzn : z = n := hz
    subst hzn
    refine Round.of0 tblP_ok (says [(15, true), (17, false)]) 4
      [(0 : Int) ≤ z ∧ (z : Int) ≤ len, (numOfB (partB l i z)).val < pN, Reads W.cell? g.a (byteAt (B := FB) l) i z, ∀ j, j < z → isU8 (byteAt (B := FB) l (i + j)) = true, (0 : Int) ≤ z ∧ (z : Int) ≤ cap, ((z : Int) == 0) = false, decide ((len : Int) > 0) = true]
      (by kernel_rfl) ?_ (by kernel_rfl) (by kernel_rfl) e1 e2 e3 e4
    exact ⟨⟨by omega, by omega⟩, hsm, reads_bytes hg (by omega), isU8_bytes l i z, ⟨by omega, by omega⟩, beq_eq_false_iff_ne.2 h, decide_eq_true (by omega), trivial⟩

/-- Where the loop is, how much is left, behind k parts. -/
def wI (n : Nat) : Nat → Nat
  | 0 => 0
  | k + 1 => (if k = 0 then (if n % 32 = 0 then 32 else n % 32) else 32) + wI n k
def wL (n : Nat) : Nat → Nat
  | 0 => n
  | k + 1 => wL n k - (if k = 0 then (if n % 32 = 0 then 32 else n % 32) else 32)
def wC (n c : Nat) : Nat → Nat
  | 0 => c
  | k + 1 => wC n c k - (if k = 0 then (if n % 32 = 0 then 32 else n % 32) else 32)
def wO (l : List UInt8) : Nat → Fp
  | 0 => 0
  | k + 1 => nextF l (wI l.length k) (if k = 0 then (if l.length % 32 = 0 then 32 else l.length % 32) else 32) (wO l k)
def wF (n : Nat) : Nat → Int
  | 0 => (n % 32 : Nat)
  | _ + 1 => 32

theorem wL_eq (n : Nat) : ∀ k, k ≤ (n + 31) / 32 → wL n k = 32 * ((n + 31) / 32 - k) - (if k = 0 then 32 * ((n + 31) / 32) - n else 0)
  | 0, _ => by simp only [wL]; simp; omega
  | 1, h => by simp only [wL]; simp; split <;> omega
  | k + 2, h => by
    have := wL_eq n (k + 1) (by omega)
    simp only [wL] at this ⊢
    simp at this ⊢
    rw [this]
    omega
theorem wI_eq (n : Nat) : ∀ k, k ≤ (n + 31) / 32 → wI n k + wL n k = n
  | 0, _ => by simp [wI, wL]
  | k + 1, h => by
    have h1 := wI_eq n k (by omega)
    have h2 := wL_eq n k (by omega)
    simp only [wI, wL]
    by_cases hk : k = 0
    · subst hk; simp [wI, wL] at *; split <;> omega
    · simp only [hk, if_false] at *; omega
theorem wC_ge (n c : Nat) (h : n ≤ c) : ∀ k, wL n k ≤ wC n c k
  | 0 => h
  | k + 1 => by have := wC_ge n c h k; simp only [wL, wC]; omega

theorem wide_loop (W : World) (g : Spot) (l : List UInt8) (hg : HasBytes W l g) (hl : l.length < 1048576) :
    SoundFor Try.prog W.cell? [] (.loop (loopNo Try.f35 4)) (wideSt g.a l 0 l.length g.c ((l.length : Int).tmod 32) 0) (.exit 0)
      (wideSt g.a l (wI l.length ((l.length + 31) / 32)) (wL l.length ((l.length + 31) / 32)) (wC l.length g.c ((l.length + 31) / 32)) (wF l.length ((l.length + 31) / 32)) (wO l ((l.length + 31) / 32))) := by
  intro c e1 e2 e3 e4
  refine loopAt (inv := fun k => wideSt g.a l (wI l.length k) (wL l.length k) (wC l.length g.c k) (wF l.length k) (wO l k)) (N := (l.length + 31) / 32) (by simp) (fun k hk => ?_) ?_
  · have h1 := wL_eq l.length k (by omega)
    have h2 := wI_eq l.length k (by omega)
    have h3 := wC_ge l.length g.c hg.1 k
    have hz : (if k = 0 then (if l.length % 32 = 0 then 32 else l.length % 32) else 32) = if wF l.length k = 0 then 32 else (wF l.length k).toNat := by
      cases k with
      | zero =>
        have hw : wF l.length 0 = ((l.length % 32 : Nat) : Int) := rfl
        rw [if_pos rfl]
        by_cases h : l.length % 32 = 0
        · have : wF l.length 0 = 0 := by rw [hw]; omega
          rw [if_pos h, if_pos this]
        · have : wF l.length 0 ≠ 0 := by rw [hw]; omega
          rw [if_neg h, if_neg this]; rfl
      | succ k => simp [wF]
    have hz1 : (if k = 0 then (if l.length % 32 = 0 then 32 else l.length % 32) else 32) ≤ wL l.length k := by
      cases k with
      | zero => simp only [wL, if_true]; split <;> omega
      | succ k => simp at h1 ⊢; omega
    have hf : 0 ≤ wF l.length k := by cases k <;> simp [wF]; omega
    exact wide_round W g l hg (wI l.length k) (wL l.length k) (wC l.length g.c k) _ (wF l.length k) (wO l k) hz hf hz1 (by split <;> (try split) <;> omega) h3 h2 hl (by have : 0 < (if k = 0 then (if l.length % 32 = 0 then 32 else l.length % 32) else 32) := (by split <;> (try split) <;> omega); omega) c e1 e2 e3 e4
  · have h1 := wL_eq l.length ((l.length + 31) / 32) (Nat.le_refl _)
    have h0 : wL l.length ((l.length + 31) / 32) = 0 := by rw [h1]; simp
    obtain ⟨L, hL⟩ : ∃ L, L = wL l.length ((l.length + 31) / 32) := ⟨_, rfl⟩
    obtain ⟨I, hI⟩ : ∃ L, L = wI l.length ((l.length + 31) / 32) := ⟨_, rfl⟩
    obtain ⟨C, hC⟩ : ∃ L, L = wC l.length g.c ((l.length + 31) / 32) := ⟨_, rfl⟩
    obtain ⟨F, hF⟩ : ∃ L, L = wF l.length ((l.length + 31) / 32) := ⟨_, rfl⟩
    obtain ⟨O, hO⟩ : ∃ L, L = wO l ((l.length + 31) / 32) := ⟨_, rfl⟩
    simp only [← hL, ← hI, ← hC, ← hF, ← hO]
    rw [← hL] at h0
    exact Round.of0 tblP_ok (says [(15, false)]) 4 [decide ((L : Int) > 0) = false] (by kernel_rfl) ⟨decide_eq_false (by omega), trivial⟩ (by kernel_rfl) (by kernel_rfl) e1 e2 e3 e4

theorem shF_val : shF.val = 256 ^ 32 := by kernel_rfl

theorem numB_append (l r : List UInt8) : numB (l ++ r) = numB l * 256 ^ r.length + numB r := by
  have key : ∀ (r : List UInt8) (n : Nat), r.foldl (fun n x => 256 * n + x.toNat) n = n * 256 ^ r.length + r.foldl (fun n x => 256 * n + x.toNat) 0 := by
    intro r
    induction r with
    | nil => intro n; simp
    | cons x r ih =>
      intro n
      simp only [List.foldl_cons, List.length_cons]
      rw [ih, ih (256 * 0 + x.toNat), Nat.pow_succ, Nat.add_mul, Nat.mul_zero, Nat.zero_add, Nat.mul_comm 256 n, Nat.mul_assoc, Nat.mul_comm 256, Nat.add_assoc]
  unfold numB
  rw [List.foldl_append]
  exact key r _

/-- The element of a number. -/
def fpN (n : Nat) : Fp := ⟨n % pN, Nat.mod_lt _ (by decide)⟩

theorem fpN_add (a b : Nat) : fpN (a + b) = fpN a + fpN b := by
  apply Fin.ext
  show (a + b) % pN = (a % pN + b % pN) % pN
  exact Nat.add_mod a b pN
theorem fpN_mul (a b : Nat) : fpN (a * b) = fpN a * fpN b := by
  apply Fin.ext
  show (a * b) % pN = (a % pN * (b % pN)) % pN
  exact Nat.mul_mod a b pN

theorem wO_eq (l : List UInt8) : ∀ k, k ≤ (l.length + 31) / 32 → wO l k = fpN (numB (l.take (wI l.length k)))
  | 0, _ => by simp [wO, wI, numB, fpN]
  | k + 1, h => by
    have ih := wO_eq l k (by omega)
    obtain ⟨z, hz⟩ : ∃ z, z = (if k = 0 then (if l.length % 32 = 0 then 32 else l.length % 32) else 32) := ⟨_, rfl⟩
    have h1 := wL_eq l.length k (by omega)
    have h2 := wI_eq l.length k (by omega)
    have hz1 : z ≤ wL l.length k := by
      rw [hz]
      cases k with
      | zero => simp only [wL, if_true]; split <;> omega
      | succ k => simp at h1 ⊢; omega
    have hz2 : z ≤ 32 := by rw [hz]; split <;> (try split) <;> omega
    have hIk : wI l.length k = 0 ∨ z = 32 := by
      cases k with
      | zero => exact .inl rfl
      | succ k => right; rw [hz]; simp
    show nextF l (wI l.length k) (if k = 0 then (if l.length % 32 = 0 then 32 else l.length % 32) else 32) (wO l k) = fpN (numB (l.take ((if k = 0 then (if l.length % 32 = 0 then 32 else l.length % 32) else 32) + wI l.length k)))
    rw [← hz]
    have hp := partB_eq l (i := wI l.length k) (n := z) (by omega)
    have hlen : ((l.drop (wI l.length k)).take z).length = z := by simp; omega
    have hs := (numOfB_small (l := (l.drop (wI l.length k)).take z) (by omega)).1
    have ht : l.take (z + wI l.length k) = l.take (wI l.length k) ++ (l.drop (wI l.length k)).take z := by rw [Nat.add_comm, List.take_add]
    have hx : (plOf (numOfB (partB l (wI l.length k) z))).x = fpN (numB ((l.drop (wI l.length k)).take z)) := by
      apply Fin.ext
      show (numOfB (partB l (wI l.length k) z)).val % pN = _
      rw [hp, hs]; rfl
    unfold nextF
    rw [hx, ht, numB_append, fpN_add, fpN_mul, hlen]
    congr 1
    rcases hIk with h0 | h0
    · rw [ih, h0]
      have : fpN (numB (List.take 0 l)) = 0 := by rfl
      rw [this, Fin.zero_mul, Fin.zero_mul]
    · rw [ih, h0]
      rfl

def wideF (l : List UInt8) : Fp := fpN (numB l)

theorem wide_ok : Computes A Try.prog 35 (fun x : Bt × Unit => wideF x.1.l) := by
  refine computes_of_runW tblP_ok (ITblOK.nil _) Try.func35 (by kernel_rfl) (by kernel_rfl) 4 ?_
  rintro ⟨g, _⟩ ⟨⟨l⟩, ⟨⟩⟩ W ⟨⟨hg, hl⟩, _⟩
  have hs := wide_loop W g l hg hl
  have ho := wO_eq l _ (Nat.le_refl _)
  have h1 := wL_eq l.length ((l.length + 31) / 32) (Nat.le_refl _)
  have h2 := wI_eq l.length ((l.length + 31) / 32) (Nat.le_refl _)
  have h0 : wL l.length ((l.length + 31) / 32) = 0 := by rw [h1]; simp
  have hi : wI l.length ((l.length + 31) / 32) = l.length := by omega
  rw [hi, List.take_length] at ho
  obtain ⟨L, hL⟩ : ∃ L, L = wL l.length ((l.length + 31) / 32) := ⟨_, rfl⟩
  obtain ⟨I, hI⟩ : ∃ L, L = wI l.length ((l.length + 31) / 32) := ⟨_, rfl⟩
  obtain ⟨C, hC⟩ : ∃ L, L = wC l.length g.c ((l.length + 31) / 32) := ⟨_, rfl⟩
  obtain ⟨F, hF⟩ : ∃ L, L = wF l.length ((l.length + 31) / 32) := ⟨_, rfl⟩
  obtain ⟨O, hO⟩ : ∃ L, L = wO l ((l.length + 31) / 32) := ⟨_, rfl⟩
  rw [← hL, ← hI, ← hC, ← hF, ← hO] at hs
  rw [← hO] at ho
  refine ⟨fun _ _ => .keep, lps [(4, wideSt g.a l 0 l.length g.c ((l.length : Int).tmod 32) 0, .exit 0, wideSt g.a l I L C F O)], O, [ToldIs (wideSt g.a l 0 l.length g.c ((l.length : Int).tmod 32) 0), (numO (0, 0, 0, 0, 1, 0)).val < pN], (by kernel_rfl), ⟨toldIs _, (by decide : (numO (0, 0, 0, 0, 1, 0)).val < pN), trivial⟩, ho, ?_⟩
  intro body hb
  refine LoopsFor.cons ?_ hs LoopsFor.nil
  obtain rfl := Option.some.inj hb
  kernel_rfl

end Go.Proofs.Ytbdbmcdcjejffaa
