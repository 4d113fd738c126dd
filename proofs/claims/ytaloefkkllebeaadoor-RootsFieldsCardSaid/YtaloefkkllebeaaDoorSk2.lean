/- Trees: Branch's contract. -/
import Derived.Test.YtaloefkkllebeaaDoorSk1
set_option linter.unusedVariables false
set_option linter.unusedSimpArgs false
set_option linter.unusedSectionVars false
namespace Go.Proofs.YtaloefkkllebeaaDoor
open Go Go.Sh
def orX (s : List (Nat × Bool)) : Nat → Nat → Dec := fun r t => match Nat.beq t 7 with | true => .grow 25 32 | false => saysY s r t
noncomputable def itB (Pr : R8 32 → R8 32 → R8 32) (g : Spot) (l : List (R8 32)) (m cc : Nat) (D : Int) (ix ix' : UInt64) (q : Nat → A) (z B : Nat → UInt8) (n d : Nat) : List (IRow A) :=
  [iterW Tryd.prog (tblSp' Pr) [] (fun _ _ => .keep) (lps [(3, outB g l m cc D ix (fun _ => Atom.dummy) zR.f (fun q => rsB l (0 + q)) m 0, .ret, leftB g l m cc D ix' q z B n d)]) 6 123 Tryd.f123]
/-- How many chunks a branch looks at. -/
def mB (l : List (R8 32)) (D : Int) : Nat := match decide ((l.length : Int) > pow2W (((cvU D).toNat : Int).toNat : Int)) with | true => (pow2W (((cvU D).toNat : Int).toNat : Int)).toNat - 0 | false => l.length
def branchF (Pr : R8 32 → R8 32 → R8 32) (l : List (R8 32)) (ix : UInt64) (D : Int) (d : Nat) : Nat → A := bF Pr ⟨fun q => rsB l (0 + q), mB l D⟩ ix D d
def branchV (Pr : R8 32 → R8 32 → R8 32) (l : List (R8 32)) (ix : UInt64) (d : Nat) : List (R8 32) := cutR 32 (fun j => u8of (branchF Pr l ix (mmI (d : Int)) d (0 + j))) d
theorem bF_u8 (Pr : R8 32 → R8 32 → R8 32) (x : Lv) (ix : UInt64) (D : Int) : ∀ (k i : Nat), isU8 (bF Pr x ix D k i) = true
  | 0, i => rfl
  | k + 1, i => by
    simp only [bF, catF]
    split
    · exact bF_u8 Pr x ix D k i
    · rw [cells32_u8]; rfl
theorem branch_of {Pr : R8 32 → R8 32 → R8 32} (ht : TblOK Tryd.prog (tblSp' Pr)) : Computes A Tryd.prog 56 (fun x : GA (Rt 32 × Dp 9 × UInt64 × Unit) => (⟨branchV Pr x.x.1.l x.x.2.2.1 x.x.2.1.n⟩ : Rz 32)) := by
  refine computes_of_runT Tryd.func56 (by kernel_rfl) (by kernel_rfl) 6 ?_
  rintro ⟨g, _⟩ ⟨⟨⟨l⟩, ⟨d⟩, ix, ⟨⟩⟩⟩ W ⟨hr, ⟨hg, hn⟩, hd9, _⟩
  have hG : HasRows W l g := hg
  have hN : l.length < 1048576 := hn
  have hd : d ≤ 9 := hd9
  have hD : mmI (d : Int) = (d : Int) := by rw [mmI_eq]; omega
  have eU : ((cvU (d : Int)).toNat : Int).toNat = d := cvU_nat (by omega)
  have eP : pow2W (((cvU (mmI (d : Int))).toNat : Int).toNat : Int) = (2 : Int) ^ d := by rw [hD, eU, pow2W_eq (by omega)]
  have hp := two_pow_le (i := d) (by omega)
  have w1 : WrapI (mmI (d : Int) + 1) := by rw [hD]; exact wI (by omega) (by omega)
  have w2 : WrapI (pow2W (((cvU (mmI (d : Int))).toNat : Int).toNat : Int)) := by rw [eP]; exact wI (by omega) (by omega)
  have c0 : (0 : Int) ≤ ((cvU (mmI (d : Int))).toNat : Int) := by omega
  have d64 : decide (mmI (d : Int) < 64) = true := decide_eq_true (by omega)
  have d62 : decide (mmI (d : Int) < 62) = true := decide_eq_true (by omega)
  show ∃ tbl its, _ ∧ _ ∧ ∃ orc lp y vc, _ ∧ _ ∧ y = (⟨cutR 32 (fun j => u8of (bF Pr ⟨fun q => rsB l (0 + q), mB l (mmI (d : Int))⟩ ix (mmI (d : Int)) d (0 + j))) d⟩ : Rz 32) ∧ _
  have hb1 : ∀ cut m cc, m < 1048576 → SoundFor Tryd.prog W.cell? [ysB g l ix d m cc (mmI (d : Int)) cut] (.loop (loopNo Tryd.f123 3)) (outB g l m cc (mmI (d : Int)) (ixB ix (mmI (d : Int)) 0) (fun _ => Atom.dummy) zR.f (fun q => rsB l (0 + q)) m 0) .ret
      (leftB g l m cc (mmI (d : Int)) (ixB ix (mmI (d : Int)) d) (bF Pr ⟨fun q => rsB l (0 + q), m⟩ ix (mmI (d : Int)) d) (zK Pr zR d).f (lvG Pr ⟨fun q => rsB l (0 + q), m⟩ d).B (lvG Pr ⟨fun q => rsB l (0 + q), m⟩ d).n d) := fun cut m cc hm c q1 q2 q3 q4 =>
    loopAt (c := c) (inv := fun k => outB g l m cc (mmI (d : Int)) (ixB ix (mmI (d : Int)) k) (bF Pr ⟨fun q => rsB l (0 + q), m⟩ ix (mmI (d : Int)) k) (zK Pr zR k).f (lvG Pr ⟨fun q => rsB l (0 + q), m⟩ k).B (lvG Pr ⟨fun q => rsB l (0 + q), m⟩ k).n k) (N := d) (by simp)
      (fun k hk => outB_one g l ix d m cc _ cut ht hr q1 q2 q3 q4 _ _ _ _ _ k (Nat.lt_of_le_of_lt (lvG_len Pr ⟨fun q => rsB l (0 + q), m⟩ k) hm) hD hk (by omega)) (outB_left g l ix d m cc _ cut ht hr q1 q2 q3 q4 _ _ _ _ _ hD)
  cases hl : decide ((l.length : Int) > pow2W (((cvU (mmI (d : Int))).toNat : Int).toNat : Int)) with
  | false =>
    have em : mB l (mmI (d : Int)) = l.length := by unfold mB; rw [hl]
    rw [em]
    have hs := hb1 false l.length g.c hN
    have hu := bF_u8 Pr ⟨fun q => rsB l (0 + q), l.length⟩ ix (mmI (d : Int)) d
    revert hs hu
    generalize bF Pr ⟨fun q => rsB l (0 + q), l.length⟩ ix (mmI (d : Int)) d = q
    generalize (zK Pr zR d).f = z
    generalize (lvG Pr ⟨fun q => rsB l (0 + q), l.length⟩ d).B = B
    generalize (lvG Pr ⟨fun q => rsB l (0 + q), l.length⟩ d).n = n
    generalize ixB ix (mmI (d : Int)) d = ix'
    intro hs hu
    have hi : ITblOK Tryd.prog (itB Pr g l l.length g.c (mmI (d : Int)) (ixB ix (mmI (d : Int)) 0) ix' q z B n d) := .cons (iterW_ok ht (ITblOK.nil _) _ _ 6 Tryd.func123 (by kernel_rfl) (by kernel_rfl)) (ITblOK.nil _)
    have hb : ∀ body, Tryd.f123.body = some body → LoopsFor Tryd.prog W.cell? [ysB g l ix d l.length g.c (mmI (d : Int)) false] (lps [(3, outB g l l.length g.c (mmI (d : Int)) (ixB ix (mmI (d : Int)) 0) (fun _ => Atom.dummy) zR.f (fun q => rsB l (0 + q)) l.length 0, .ret, leftB g l l.length g.c (mmI (d : Int)) ix' q z B n d)]) body := fun body hb => by
      obtain rfl := Option.some.inj hb
      exact LoopsFor.cons (by kernel_rfl) hs LoopsFor.nil
    have bb : Sh.Bears l.length 32 := by unfold Sh.Bears maxLen; omega
    have rd : Reads W.cell? g.a (rsAt (l := l)) 0 (l.length * 32) := reads_rows (n := 32) hG (by omega)
    exact ⟨_, _, .cons levelsRow_ok (.nil _), hi, orX [(24, false), (23, false)], noLoop, ⟨cutR 32 (fun j => u8of (q (0 + j))) d⟩, [∀ j, j < d * 32 → isU8 (q (0 + j)) = true, ∀ body, Tryd.f123.body = some body → LoopsFor Tryd.prog W.cell? [ysB g l ix d l.length g.c (mmI (d : Int)) false] (lps [(3, outB g l l.length g.c (mmI (d : Int)) (ixB ix (mmI (d : Int)) 0) (fun _ => Atom.dummy) zR.f (fun q => rsB l (0 + q)) l.length 0, .ret, leftB g l l.length g.c (mmI (d : Int)) ix' q z B n d)]) body,
      ToldIs (outB g l l.length g.c (mmI (d : Int)) (ixB ix (mmI (d : Int)) 0) (fun _ => Atom.dummy) zR.f (fun q => rsB l (0 + q)) l.length 0), WrapI (mmI (d : Int) + 1), Sh.Bears l.length 32, Reads W.cell? g.a (rsAt l) 0 (l.length * 32), (0 : Int) ≤ ((cvU (mmI (d : Int))).toNat : Int), decide (mmI (d : Int) < 64) = true, decide ((l.length : Int) > pow2W (((cvU (mmI (d : Int))).toNat : Int).toNat : Int)) = false,
      WrapI (pow2W (((cvU (mmI (d : Int))).toNat : Int).toNat : Int)), (0 : Int) ≤ ((cvU (mmI (d : Int))).toNat : Int), decide (mmI (d : Int) < 62) = true], by kernel_rfl,
      ⟨fun j _ => hu _, hb, toldIs _, w1, bb, rd, c0, d64, hl, w2, c0, d62, trivial⟩, rfl, fun body _ => loopsFor_none⟩
  | true =>
    have hgt := of_decide_eq_true hl
    have em : mB l (mmI (d : Int)) = (pow2W (((cvU (mmI (d : Int))).toNat : Int).toNat : Int)).toNat - 0 := by unfold mB; rw [hl]
    rw [em]
    have hm1 : (pow2W (((cvU (mmI (d : Int))).toNat : Int).toNat : Int)).toNat - 0 < 1048576 := by omega
    have hm2 : (pow2W (((cvU (mmI (d : Int))).toNat : Int).toNat : Int)).toNat - 0 ≤ l.length := by omega
    have hgc := hG.1
    have pc : 0 ≤ pow2W (((cvU (mmI (d : Int))).toNat : Int).toNat : Int) ∧ pow2W (((cvU (mmI (d : Int))).toNat : Int).toNat : Int) ≤ (g.c : Int) := by omega
    have hs := hb1 true ((pow2W (((cvU (mmI (d : Int))).toNat : Int).toNat : Int)).toNat - 0) (g.c - 0) hm1
    have hu := bF_u8 Pr ⟨fun q => rsB l (0 + q), (pow2W (((cvU (mmI (d : Int))).toNat : Int).toNat : Int)).toNat - 0⟩ ix (mmI (d : Int)) d
    have bb : Sh.Bears ((pow2W (((cvU (mmI (d : Int))).toNat : Int).toNat : Int)).toNat - 0) 32 := by unfold Sh.Bears maxLen; omega
    have rd : Reads W.cell? g.a (rsAt (l := l)) 0 (((pow2W (((cvU (mmI (d : Int))).toNat : Int).toNat : Int)).toNat - 0) * 32) := reads_rows (n := 32) hG (by omega)
    revert hs hu
    generalize bF Pr ⟨fun q => rsB l (0 + q), (pow2W (((cvU (mmI (d : Int))).toNat : Int).toNat : Int)).toNat - 0⟩ ix (mmI (d : Int)) d = q
    generalize (zK Pr zR d).f = z
    generalize (lvG Pr ⟨fun q => rsB l (0 + q), (pow2W (((cvU (mmI (d : Int))).toNat : Int).toNat : Int)).toNat - 0⟩ d).B = B
    generalize (lvG Pr ⟨fun q => rsB l (0 + q), (pow2W (((cvU (mmI (d : Int))).toNat : Int).toNat : Int)).toNat - 0⟩ d).n = n
    generalize ixB ix (mmI (d : Int)) d = ix'
    intro hs hu
    have hi : ITblOK Tryd.prog (itB Pr g l ((pow2W (((cvU (mmI (d : Int))).toNat : Int).toNat : Int)).toNat - 0) (g.c - 0) (mmI (d : Int)) (ixB ix (mmI (d : Int)) 0) ix' q z B n d) := .cons (iterW_ok ht (ITblOK.nil _) _ _ 6 Tryd.func123 (by kernel_rfl) (by kernel_rfl)) (ITblOK.nil _)
    have hb : ∀ body, Tryd.f123.body = some body → LoopsFor Tryd.prog W.cell? [ysB g l ix d ((pow2W (((cvU (mmI (d : Int))).toNat : Int).toNat : Int)).toNat - 0) (g.c - 0) (mmI (d : Int)) true] (lps [(3, outB g l ((pow2W (((cvU (mmI (d : Int))).toNat : Int).toNat : Int)).toNat - 0) (g.c - 0) (mmI (d : Int)) (ixB ix (mmI (d : Int)) 0) (fun _ => Atom.dummy) zR.f (fun q => rsB l (0 + q)) ((pow2W (((cvU (mmI (d : Int))).toNat : Int).toNat : Int)).toNat - 0) 0, .ret, leftB g l ((pow2W (((cvU (mmI (d : Int))).toNat : Int).toNat : Int)).toNat - 0) (g.c - 0) (mmI (d : Int)) ix' q z B n d)]) body := fun body hb => by
      obtain rfl := Option.some.inj hb
      exact LoopsFor.cons (by kernel_rfl) hs LoopsFor.nil
    exact ⟨_, _, .cons levelsRow_ok (.nil _), hi, orX [], noLoop, ⟨cutR 32 (fun j => u8of (q (0 + j))) d⟩, [∀ j, j < d * 32 → isU8 (q (0 + j)) = true, ∀ body, Tryd.f123.body = some body → LoopsFor Tryd.prog W.cell? [ysB g l ix d ((pow2W (((cvU (mmI (d : Int))).toNat : Int).toNat : Int)).toNat - 0) (g.c - 0) (mmI (d : Int)) true] (lps [(3, outB g l ((pow2W (((cvU (mmI (d : Int))).toNat : Int).toNat : Int)).toNat - 0) (g.c - 0) (mmI (d : Int)) (ixB ix (mmI (d : Int)) 0) (fun _ => Atom.dummy) zR.f (fun q => rsB l (0 + q)) ((pow2W (((cvU (mmI (d : Int))).toNat : Int).toNat : Int)).toNat - 0) 0, .ret, leftB g l ((pow2W (((cvU (mmI (d : Int))).toNat : Int).toNat : Int)).toNat - 0) (g.c - 0) (mmI (d : Int)) ix' q z B n d)]) body,
      ToldIs (outB g l ((pow2W (((cvU (mmI (d : Int))).toNat : Int).toNat : Int)).toNat - 0) (g.c - 0) (mmI (d : Int)) (ixB ix (mmI (d : Int)) 0) (fun _ => Atom.dummy) zR.f (fun q => rsB l (0 + q)) ((pow2W (((cvU (mmI (d : Int))).toNat : Int).toNat : Int)).toNat - 0) 0), WrapI (mmI (d : Int) + 1), Sh.Bears ((pow2W (((cvU (mmI (d : Int))).toNat : Int).toNat : Int)).toNat - 0) 32, Reads W.cell? g.a (rsAt l) 0 (((pow2W (((cvU (mmI (d : Int))).toNat : Int).toNat : Int)).toNat - 0) * 32), (0 : Int) ≤ ((cvU (mmI (d : Int))).toNat : Int), decide (mmI (d : Int) < 64) = true,
      0 ≤ pow2W (((cvU (mmI (d : Int))).toNat : Int).toNat : Int) ∧ pow2W (((cvU (mmI (d : Int))).toNat : Int).toNat : Int) ≤ (g.c : Int), WrapI (pow2W (((cvU (mmI (d : Int))).toNat : Int).toNat : Int)), (0 : Int) ≤ ((cvU (mmI (d : Int))).toNat : Int), decide ((l.length : Int) > pow2W (((cvU (mmI (d : Int))).toNat : Int).toNat : Int)) = true,
      WrapI (pow2W (((cvU (mmI (d : Int))).toNat : Int).toNat : Int)), (0 : Int) ≤ ((cvU (mmI (d : Int))).toNat : Int), decide (mmI (d : Int) < 62) = true], by kernel_rfl,
      ⟨fun j _ => hu _, hb, toldIs _, w1, bb, rd, c0, d64, pc, w2, c0, hl, w2, c0, d62, trivial⟩, rfl, fun body _ => loopsFor_none⟩
theorem branch_ok : Computes A Tryd.prog 56 (fun x : GA (Rt 32 × Dp 9 × UInt64 × Unit) => (⟨branchV pairR8 x.x.1.l x.x.2.2.1 x.x.2.1.n⟩ : Rz 32)) := branch_of (.cons pair_ok.row (.nil _))
end Go.Proofs.YtaloefkkllebeaaDoor
