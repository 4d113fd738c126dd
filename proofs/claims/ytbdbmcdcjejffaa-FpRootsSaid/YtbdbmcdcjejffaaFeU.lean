/- The reference's numbers of bytes. -/
import Derived.Test.YtbdbmcdcjejffaaFeQ
set_option linter.unusedVariables false
set_option linter.unusedSimpArgs false
set_option linter.unusedSectionVars false
namespace Go.Proofs.Ytbdbmcdcjejffaa
open Go Go.Sh

/-- a or byte x, shifted by s, as the reference takes it. -/
def orRef (a : UInt64) (x : UInt8) (s : Int) : UInt64 :=
  UInt64.ofNat (((BitVec.ofInt IntKind.u64.bits (a.toNat : Int) ||| BitVec.ofInt IntKind.u64.bits ((UInt64.ofNat (((UInt64.ofNat ((x.toNat : Int) % 18446744073709551616).toNat).toNat : Int) * 2 ^ min s.toNat IntKind.u64.bits % 18446744073709551616).toNat).toNat : Int)).toNat : Int) % 18446744073709551616).toNat
theorem orRef_eq (a : UInt64) (x : UInt8) {s : Int} (h0 : 0 ≤ s) (h1 : s < 64) : orRef a x s = orRaw a x s := by
  have e : ((UInt64.ofNat (s % 18446744073709551616).toNat).toNat : Int).toNat = s.toNat := by
    rw [Int.toNat_natCast, UInt64.toNat_ofNat_of_lt' (by show (s % 18446744073709551616).toNat < 18446744073709551616; omega)]
    omega
  unfold orRef orRaw
  rw [e]

/-- The loop of the reference's From, at its head: k bytes have been. -/
def rfromSt (g : Spot) (l : List UInt8) (f : Nat → UInt64) (k : Nat) : St A :=
  ⟨slots 0 38 [(0, .val false [.e g.a (byteAt l) 0 l.length g.c]), (2, .val false [.p 0 0]), (3, .val false [.v (.bool false)]), (4, .val false [.p 1 0]), (5, .val false [.n .i64 k])],
   [some ⟨lit6, 31, false⟩, some ⟨[.a (.w64 6 f)], 31, false⟩], 0, [], []⟩

theorem rfrom_loop (W : World) (g : Spot) (l : List UInt8) (hg : HasBytes W l g) (hl : l.length ≤ 48) : SoundFor Try.prog W.cell? [] (.loop (loopNo Try.f28 5)) (rfromSt g l zero64 0) (.exit 0) (rfromSt g l (fromF l l.length) l.length) := by
  intro c e1 e2 e3 e4
  refine loopAt (inv := fun k => rfromSt g l (fromF l k) k) (N := l.length) (by simp) (fun k hk => ?_) ?_
  · have hz : (l.length : Int) - 1 - k = ((l.length - 1 - k : Nat) : Int) := by omega
    have h1 : ((l.length : Int) - 1 - k).tdiv 8 = ((l.length - 1 - k) / 8 : Nat) := by rw [hz]; rfl
    have h2 : ((l.length : Int) - 1 - k).tmod 8 = ((l.length - 1 - k) % 8 : Nat) := by rw [hz]; rfl
    have h3 : fromF l (k + 1) = upd (fromF l k) (((l.length : Int) - 1 - k).tdiv 8).toNat (orRef (fromF l k (((l.length : Int) - 1 - k).tdiv 8).toNat) (l.getD k 0) (8 * ((l.length : Int) - 1 - k).tmod 8)) := by
      rw [orRef_eq _ _ (by rw [h2]; omega) (by rw [h2]; omega)]
      rfl
    rw [h3]
    refine Round.of0 (TblOK.nil _) (says [(14, true)]) 4
      [WrapI ((k : Int) + 1), Idx (((l.length : Int) - 1 - k).tdiv 8) 6, (0 : Int) ≤ 8 * ((l.length : Int) - 1 - k).tmod 8, WrapI (8 * ((l.length : Int) - 1 - k).tmod 8),
        Reads W.cell? g.a (byteAt (B := FB) l) k 1, Idx k l.length, Idx (((l.length : Int) - 1 - k).tdiv 8) 6, WrapI (((l.length : Int) - 1 - k).tdiv 8), WrapI ((l.length : Int) - 1 - k), WrapI ((l.length : Int) - 1), decide ((k : Int) < l.length) = true]
      (by kernel_rfl) ?_ (by kernel_rfl) (by kernel_rfl) e1 e2 e3 e4
    refine ⟨wrapI (by omega) (by omega), ⟨by rw [h1]; omega, by rw [h1]; omega⟩, by rw [h2]; omega, wrapI (by rw [h2]; omega) (by rw [h2]; omega), reads_bytes hg (by omega), ⟨by omega, by omega⟩, ⟨by rw [h1]; omega, by rw [h1]; omega⟩, wrapI (by rw [h1]; omega) (by rw [h1]; omega),
      wrapI (by omega) (by omega), wrapI (by omega) (by omega), decide_eq_true (by omega), trivial⟩
  · exact Round.of0 (TblOK.nil _) (says [(14, false)]) 4 [decide ((l.length : Int) < l.length) = false] (by kernel_rfl) ⟨decide_eq_false (by omega), trivial⟩ (by kernel_rfl) (by kernel_rfl) e1 e2 e3 e4

theorem rfromRaw_ok : Computes A Try.prog 28 (fun x : Bs × Unit => if x.1.l.length ≤ 48 then T2.mk (numO (fromF x.1.l x.1.l.length 0, fromF x.1.l x.1.l.length 1, fromF x.1.l x.1.l.length 2, fromF x.1.l x.1.l.length 3, fromF x.1.l x.1.l.length 4, fromF x.1.l x.1.l.length 5)) true else T2.mk (0 : Num) false) := by
  refine computes_of_runW (TblOK.nil _) (ITblOK.nil _) Try.func28 (by kernel_rfl) (by kernel_rfl) 4 ?_
  rintro ⟨g, _⟩ ⟨⟨l⟩, ⟨⟩⟩ W ⟨hg, _⟩
  by_cases hl : l.length ≤ 48
  · obtain ⟨F, hF⟩ : ∃ F, F = fromF l l.length := ⟨_, rfl⟩
    have hs := rfrom_loop W g l hg hl
    rw [← hF] at hs
    refine ⟨says [(9, false)], lps [(5, rfromSt g l zero64 0, .exit 0, rfromSt g l F l.length)], _, _, (by kernel_rfl : _ = some (some (T2.mk (numO (F 0, F 1, F 2, F 3, F 4, F 5)) true), [ToldIs (rfromSt g l zero64 0), decide ((l.length : Int) > 48) = false])),
      ⟨toldIs _, decide_eq_false (by omega), trivial⟩, ?_, ?_⟩
    · simp only [hl, if_true, hF]
    · intro body hb
      refine LoopsFor.cons ?_ hs LoopsFor.nil
      obtain rfl := Option.some.inj hb
      kernel_rfl
  · refine ⟨says [(9, true)], noLoop, _, _, (by kernel_rfl : _ = some (some (T2.mk (0 : Num) false), [decide ((l.length : Int) > 48) = true])), ⟨decide_eq_true (by omega), trivial⟩, ?_, fun body _ => loopsFor_none⟩
    simp only [hl, if_false]

theorem refFrom_ok : Computes A Try.prog 28 (fun x : Bs × Unit => fromB x.1.l) := by
  refine Computes.eq rfromRaw_ok (fun x => ?_)
  obtain ⟨⟨l⟩, ⟨⟩⟩ := x
  simp only [fromB, numOfB]
  by_cases h : l.length ≤ 48
  · simp only [h, if_true, dif_pos, decide_true]
    congr 1
    apply Fin.ext
    show valF (fromF l l.length) = numB l
    rw [fromF_val h l.length (Nat.le_refl _)]
    simp
  · simp only [h, if_false, dif_neg, not_false_eq_true, decide_false]

/-! ### The number of the bytes of a number -/
theorem numB_range (k : Nat) : ∀ n, numB ((List.range k).map fun i => UInt8.ofNat (n / 256 ^ (k - 1 - i) % 256)) = n % 256 ^ k := by
  induction k with
  | zero => intro n; simp [numB]; omega
  | succ k ih =>
    intro n
    rw [List.range_succ, List.map_append]
    show numB (_ ++ [_]) = _
    rw [numB_snoc]
    have e : (List.range k).map (fun i => UInt8.ofNat (n / 256 ^ (k + 1 - 1 - i) % 256)) = (List.range k).map fun i => UInt8.ofNat ((n / 256) / 256 ^ (k - 1 - i) % 256) := by
      apply List.map_congr_left
      intro i hi
      have hi : i < k := List.mem_range.1 hi
      rw [Nat.div_div_eq_div_mul, ← Nat.pow_add_one']
      congr 4
      omega
    rw [e, ih]
    show 256 * (n / 256 % 256 ^ k) + (UInt8.ofNat (n / 256 ^ (k + 1 - 1 - k) % 256)).toNat = _
    have hb : ∀ z : Nat, (UInt8.ofNat (z % 256)).toNat = z % 256 := fun z => by
      rw [UInt8.toNat_ofNat']
      omega
    rw [show k + 1 - 1 - k = 0 by omega, Nat.pow_zero, Nat.div_one, hb, Nat.pow_succ, Nat.mul_comm (256 ^ k) 256, Nat.mod_mul]
    omega
theorem numB_bytesN {n : Nat} (h : n < 256 ^ 48) : numB ((List.range 48).map (byteN n)) = n := by
  have := numB_range 48 n
  rw [Nat.mod_eq_of_lt h] at this
  exact this
theorem fp_lt (a : Fp) : a.val < 256 ^ 48 := Nat.lt_trans a.isLt (by rw [pN_val]; decide)

end Go.Proofs.Ytbdbmcdcjejffaa
