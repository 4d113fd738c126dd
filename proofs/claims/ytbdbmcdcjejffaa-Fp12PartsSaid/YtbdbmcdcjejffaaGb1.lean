/- The helpers of the laws of fp2, fp6 and fp12: parts, the document's elements, small ones, elements of bytes, light inputs. -/
import Derived.Test.YtbdbmcdcjejffaaGa4
set_option linter.unusedVariables false
set_option linter.unusedSimpArgs false
set_option linter.unusedSectionVars false
namespace Go.Proofs.Ytbdbmcdcjejffaa
open Go Go.Sh

/-- What is asked of bytes i .. i + n - 1 of l. -/
abbrev ReadAt (W : World) (g : Spot) (l : List UInt8) (i n : Nat) : Prop := Reads W.cell? g.a (byteAt (B := FB) l) i n
abbrev U8At (l : List UInt8) (i n : Nat) : Prop := ∀ j, j < n → isU8 (byteAt (B := FB) l (i + j)) = true
theorem readAt {W : World} {g : Spot} {l : List UInt8} (h : HasBytes W l g) {i n : Nat} (hi : i + n ≤ l.length) : ReadAt W g l i n := reads_bytes h hi
theorem u8At (l : List UInt8) (i n : Nat) : U8At l i n := isU8_bytes l i n
theorem partB_len (l : List UInt8) (i n : Nat) : (partB l i n).length = n := by unfold partB; simp

/-- An element of bytes: of both halves. -/
def num2 (Wd : List UInt8 → Fp) (l : List UInt8) : F2 := (Wd (l.take (l.length / 2)), Wd (l.drop (l.length / 2)))
theorem tdiv2 (n : Nat) : ((n : Int).tdiv 2).toNat = n / 2 := rfl
theorem half_take (l : List UInt8) : partB l 0 (((l.length : Int).tdiv 2).toNat) = l.take (l.length / 2) := by
  rw [tdiv2, partB_eq l (by omega)]; simp
theorem half_drop (l : List UInt8) : partB l (((l.length : Int).tdiv 2).toNat) (l.length - ((l.length : Int).tdiv 2).toNat) = l.drop (l.length / 2) := by
  rw [tdiv2, partB_eq l (by omega)]
  exact List.take_of_length_le (by simp)
theorem light_of {W : World} {g : Spot} {x : List UInt8} (hl : x.length ≤ 200) : (partB x 0 x.length).length < 1048576 := by rw [partB_all]; omega

/-- Of the inputs, the k-th is the first that is long (none for k = 0). -/
def lightO' (k : Nat) : Nat → Nat → Dec := fun rd t => match Nat.beq t 15 with | true => (match Nat.beq rd k with | true => .take true | false => .take false) | false => .keep

/-! ### Package 5 -/
theorem part5_ok : Computes A Try.prog 117 (fun x : Fp × Unit => x.1) := by
  refine Computes.eq (f := fun x : Fp × Unit => (plOf (fromB (listB (byteN x.1.val))).a).x) ?_ (fun x => Fin.ext ?_)
  · refine computes_of_run tblRef_ok Try.func117 (by kernel_rfl) (by kernel_rfl) 8 ?_
    rintro _ ⟨a, ⟨⟩⟩ W -
    exact ⟨fun _ _ => .keep, _, [(fromB (listB (byteN a.val))).a.val < pN], (by kernel_rfl : _ = some (some (plOf (fromB (listB (byteN a.val))).a).x, _)), ⟨by rw [from_bytes]; exact a.isLt, trivial⟩, rfl⟩
  · show (fromB (listB (byteN x.1.val))).a.val % pN = x.1.val
    rw [from_bytes, Nat.mod_eq_of_lt x.1.isLt]
theorem ref5_ok : Computes A Try.prog 105 (fun x : F2 × Unit => x.1) :=
  computes_of_run0 (.cons part5_ok.row (.nil _)) Try.func105 (by kernel_rfl) (by kernel_rfl) 8 (fun _ _ _ => by kernel_rfl)
theorem small5_ok : Computes A Try.prog 176 (fun x : UInt64 × UInt64 × Unit => ((fpOf x.1, fpOf x.2.1) : F2)) :=
  computes_of_run0 (.cons of_ok.row (.nil _)) Try.func176 (by kernel_rfl) (by kernel_rfl) 8 (fun _ _ _ => by kernel_rfl)
theorem same5_of (R : F2 → F2) (hR : Computes A Try.prog 105 (fun x : F2 × Unit => R x.1)) : Computes A Try.prog 118 (fun x : F2 × F2 × Unit => eqE (R x.1) x.2.1) :=
  computes_of_run0 (.cons hR.row (.nil _)) Try.func118 (by kernel_rfl) (by kernel_rfl) 8 (fun _ _ _ => by kernel_rfl)
theorem same5_ok : Computes A Try.prog 118 (fun x : F2 × F2 × Unit => decide (x.1 = x.2.1)) := Computes.eq (same5_of (fun a => a) ref5_ok) (fun x => eqE_eq x.1 x.2.1)
theorem num5_of (Wd : List UInt8 → Fp) (hW : Computes A Try.prog 35 (fun x : Bt × Unit => Wd x.1.l)) : Computes A Try.prog 103 (fun x : Bt × Unit => num2 Wd x.1.l) := by
  refine computes_of_run (.cons hW.row (.nil _)) Try.func103 (by kernel_rfl) (by kernel_rfl) 8 ?_
  rintro ⟨g, _⟩ ⟨⟨l⟩, ⟨⟩⟩ W ⟨⟨hg, hl⟩, _⟩
  have hg : HasBytes W l g := hg
  have hl : l.length < 1048576 := hl
  have hc : l.length ≤ g.c := hg.1
  have e : ((l.length : Int).tdiv 2) = ((l.length / 2 : Nat) : Int) := rfl
  refine ⟨fun _ _ => .keep, (Wd (partB l 0 ((l.length : Int).tdiv 2).toNat), Wd (partB l ((l.length : Int).tdiv 2).toNat (l.length - ((l.length : Int).tdiv 2).toNat))),
    [(partB l ((l.length : Int).tdiv 2).toNat (l.length - ((l.length : Int).tdiv 2).toNat)).length < 1048576, ReadAt W g l ((l.length : Int).tdiv 2).toNat (l.length - ((l.length : Int).tdiv 2).toNat), U8At l ((l.length : Int).tdiv 2).toNat (l.length - ((l.length : Int).tdiv 2).toNat),
      0 ≤ (l.length : Int).tdiv 2 ∧ (l.length : Int).tdiv 2 ≤ l.length, (partB l 0 ((l.length : Int).tdiv 2).toNat).length < 1048576, ReadAt W g l 0 ((l.length : Int).tdiv 2).toNat, U8At l 0 ((l.length : Int).tdiv 2).toNat, 0 ≤ (l.length : Int).tdiv 2 ∧ (l.length : Int).tdiv 2 ≤ g.c, WrapI ((l.length : Int).tdiv 2)],
    by kernel_rfl, ⟨by rw [partB_len]; omega, readAt hg (by rw [tdiv2]; omega), u8At _ _ _, ⟨by rw [e]; omega, by rw [e]; omega⟩, by rw [partB_len, tdiv2]; omega, readAt hg (by rw [tdiv2]; omega), u8At _ _ _, ⟨by rw [e]; omega, by rw [e]; omega⟩, wrapI (by rw [e]; omega) (by rw [e]; omega), trivial⟩, ?_⟩
  rw [half_take, half_drop]; rfl
theorem num5_ok : Computes A Try.prog 103 (fun x : Bt × Unit => num2 wideF x.1.l) := num5_of wideF wide_ok
noncomputable def light5Row (k : Nat) : Row A := rowIn Try.prog [] [] (lightO' k) 8 102 Try.f102
theorem light5Row_ok (k : Nat) : RowOK Try.prog (light5Row k) := rowIn_ok (TblOK.nil _) (ITblOK.nil _) (lightO' k) 8 Try.func102 (by kernel_rfl) (by kernel_rfl)

/-! ### Package 6 -/
theorem part6_ok : Computes A Try.prog 170 (fun x : Fp × Unit => x.1) := by
  refine Computes.eq (f := fun x : Fp × Unit => (plOf (fromB (listB (byteN x.1.val))).a).x) ?_ (fun x => Fin.ext ?_)
  · refine computes_of_run tblRef_ok Try.func170 (by kernel_rfl) (by kernel_rfl) 8 ?_
    rintro _ ⟨a, ⟨⟩⟩ W -
    exact ⟨fun _ _ => .keep, _, [(fromB (listB (byteN a.val))).a.val < pN], (by kernel_rfl : _ = some (some (plOf (fromB (listB (byteN a.val))).a).x, _)), ⟨by rw [from_bytes]; exact a.isLt, trivial⟩, rfl⟩
  · show (fromB (listB (byteN x.1.val))).a.val % pN = x.1.val
    rw [from_bytes, Nat.mod_eq_of_lt x.1.isLt]
theorem ref6_ok : Computes A Try.prog 84 (fun x : F2 × Unit => x.1) :=
  computes_of_run0 (.cons part6_ok.row (.nil _)) Try.func84 (by kernel_rfl) (by kernel_rfl) 8 (fun _ _ _ => by kernel_rfl)
theorem small6_ok : Computes A Try.prog 166 (fun x : UInt64 × UInt64 × Unit => ((fpOf x.1, fpOf x.2.1) : F2)) :=
  computes_of_run0 (.cons of_ok.row (.nil _)) Try.func166 (by kernel_rfl) (by kernel_rfl) 8 (fun _ _ _ => by kernel_rfl)
theorem same6_of (R : F2 → F2) (hR : Computes A Try.prog 84 (fun x : F2 × Unit => R x.1)) : Computes A Try.prog 167 (fun x : F2 × F2 × Unit => eqE (R x.1) x.2.1) :=
  computes_of_run0 (.cons hR.row (.nil _)) Try.func167 (by kernel_rfl) (by kernel_rfl) 8 (fun _ _ _ => by kernel_rfl)
theorem same6_ok : Computes A Try.prog 167 (fun x : F2 × F2 × Unit => decide (x.1 = x.2.1)) := Computes.eq (same6_of (fun a => a) ref6_ok) (fun x => eqE_eq x.1 x.2.1)
theorem num6_of (Wd : List UInt8 → Fp) (hW : Computes A Try.prog 35 (fun x : Bt × Unit => Wd x.1.l)) : Computes A Try.prog 76 (fun x : Bt × Unit => num2 Wd x.1.l) := by
  refine computes_of_run (.cons hW.row (.nil _)) Try.func76 (by kernel_rfl) (by kernel_rfl) 8 ?_
  rintro ⟨g, _⟩ ⟨⟨l⟩, ⟨⟩⟩ W ⟨⟨hg, hl⟩, _⟩
  have hg : HasBytes W l g := hg
  have hl : l.length < 1048576 := hl
  have hc : l.length ≤ g.c := hg.1
  have e : ((l.length : Int).tdiv 2) = ((l.length / 2 : Nat) : Int) := rfl
  refine ⟨fun _ _ => .keep, (Wd (partB l 0 ((l.length : Int).tdiv 2).toNat), Wd (partB l ((l.length : Int).tdiv 2).toNat (l.length - ((l.length : Int).tdiv 2).toNat))),
    [(partB l ((l.length : Int).tdiv 2).toNat (l.length - ((l.length : Int).tdiv 2).toNat)).length < 1048576, ReadAt W g l ((l.length : Int).tdiv 2).toNat (l.length - ((l.length : Int).tdiv 2).toNat), U8At l ((l.length : Int).tdiv 2).toNat (l.length - ((l.length : Int).tdiv 2).toNat),
      0 ≤ (l.length : Int).tdiv 2 ∧ (l.length : Int).tdiv 2 ≤ l.length, (partB l 0 ((l.length : Int).tdiv 2).toNat).length < 1048576, ReadAt W g l 0 ((l.length : Int).tdiv 2).toNat, U8At l 0 ((l.length : Int).tdiv 2).toNat, 0 ≤ (l.length : Int).tdiv 2 ∧ (l.length : Int).tdiv 2 ≤ g.c, WrapI ((l.length : Int).tdiv 2)],
    by kernel_rfl, ⟨by rw [partB_len]; omega, readAt hg (by rw [tdiv2]; omega), u8At _ _ _, ⟨by rw [e]; omega, by rw [e]; omega⟩, by rw [partB_len, tdiv2]; omega, readAt hg (by rw [tdiv2]; omega), u8At _ _ _, ⟨by rw [e]; omega, by rw [e]; omega⟩, wrapI (by rw [e]; omega) (by rw [e]; omega), trivial⟩, ?_⟩
  rw [half_take, half_drop]; rfl
theorem num6_ok : Computes A Try.prog 76 (fun x : Bt × Unit => num2 wideF x.1.l) := num6_of wideF wide_ok
noncomputable def light6Row (k : Nat) : Row A := rowIn Try.prog [] [] (lightO' k) 8 67 Try.f67
theorem light6Row_ok (k : Nat) : RowOK Try.prog (light6Row k) := rowIn_ok (TblOK.nil _) (ITblOK.nil _) (lightO' k) 8 Try.func67 (by kernel_rfl) (by kernel_rfl)

/-! ### Package 7 -/
theorem part7_ok : Computes A Try.prog 190 (fun x : Fp × Unit => x.1) := by
  refine Computes.eq (f := fun x : Fp × Unit => (plOf (fromB (listB (byteN x.1.val))).a).x) ?_ (fun x => Fin.ext ?_)
  · refine computes_of_run tblRef_ok Try.func190 (by kernel_rfl) (by kernel_rfl) 8 ?_
    rintro _ ⟨a, ⟨⟩⟩ W -
    exact ⟨fun _ _ => .keep, _, [(fromB (listB (byteN a.val))).a.val < pN], (by kernel_rfl : _ = some (some (plOf (fromB (listB (byteN a.val))).a).x, _)), ⟨by rw [from_bytes]; exact a.isLt, trivial⟩, rfl⟩
  · show (fromB (listB (byteN x.1.val))).a.val % pN = x.1.val
    rw [from_bytes, Nat.mod_eq_of_lt x.1.isLt]
theorem ref7_ok : Computes A Try.prog 179 (fun x : F2 × Unit => x.1) :=
  computes_of_run0 (.cons part7_ok.row (.nil _)) Try.func179 (by kernel_rfl) (by kernel_rfl) 8 (fun _ _ _ => by kernel_rfl)
theorem small7_ok : Computes A Try.prog 174 (fun x : UInt64 × UInt64 × Unit => ((fpOf x.1, fpOf x.2.1) : F2)) :=
  computes_of_run0 (.cons of_ok.row (.nil _)) Try.func174 (by kernel_rfl) (by kernel_rfl) 8 (fun _ _ _ => by kernel_rfl)
theorem same7_of (R : F2 → F2) (hR : Computes A Try.prog 179 (fun x : F2 × Unit => R x.1)) : Computes A Try.prog 133 (fun x : F2 × F2 × Unit => eqE (R x.1) x.2.1) :=
  computes_of_run0 (.cons hR.row (.nil _)) Try.func133 (by kernel_rfl) (by kernel_rfl) 8 (fun _ _ _ => by kernel_rfl)
theorem same7_ok : Computes A Try.prog 133 (fun x : F2 × F2 × Unit => decide (x.1 = x.2.1)) := Computes.eq (same7_of (fun a => a) ref7_ok) (fun x => eqE_eq x.1 x.2.1)
theorem num7_of (Wd : List UInt8 → Fp) (hW : Computes A Try.prog 35 (fun x : Bt × Unit => Wd x.1.l)) : Computes A Try.prog 189 (fun x : Bt × Unit => num2 Wd x.1.l) := by
  refine computes_of_run (.cons hW.row (.nil _)) Try.func189 (by kernel_rfl) (by kernel_rfl) 8 ?_
  rintro ⟨g, _⟩ ⟨⟨l⟩, ⟨⟩⟩ W ⟨⟨hg, hl⟩, _⟩
  have hg : HasBytes W l g := hg
  have hl : l.length < 1048576 := hl
  have hc : l.length ≤ g.c := hg.1
  have e : ((l.length : Int).tdiv 2) = ((l.length / 2 : Nat) : Int) := rfl
  refine ⟨fun _ _ => .keep, (Wd (partB l 0 ((l.length : Int).tdiv 2).toNat), Wd (partB l ((l.length : Int).tdiv 2).toNat (l.length - ((l.length : Int).tdiv 2).toNat))),
    [(partB l ((l.length : Int).tdiv 2).toNat (l.length - ((l.length : Int).tdiv 2).toNat)).length < 1048576, ReadAt W g l ((l.length : Int).tdiv 2).toNat (l.length - ((l.length : Int).tdiv 2).toNat), U8At l ((l.length : Int).tdiv 2).toNat (l.length - ((l.length : Int).tdiv 2).toNat),
      0 ≤ (l.length : Int).tdiv 2 ∧ (l.length : Int).tdiv 2 ≤ l.length, (partB l 0 ((l.length : Int).tdiv 2).toNat).length < 1048576, ReadAt W g l 0 ((l.length : Int).tdiv 2).toNat, U8At l 0 ((l.length : Int).tdiv 2).toNat, 0 ≤ (l.length : Int).tdiv 2 ∧ (l.length : Int).tdiv 2 ≤ g.c, WrapI ((l.length : Int).tdiv 2)],
    by kernel_rfl, ⟨by rw [partB_len]; omega, readAt hg (by rw [tdiv2]; omega), u8At _ _ _, ⟨by rw [e]; omega, by rw [e]; omega⟩, by rw [partB_len, tdiv2]; omega, readAt hg (by rw [tdiv2]; omega), u8At _ _ _, ⟨by rw [e]; omega, by rw [e]; omega⟩, wrapI (by rw [e]; omega) (by rw [e]; omega), trivial⟩, ?_⟩
  rw [half_take, half_drop]; rfl
theorem num7_ok : Computes A Try.prog 189 (fun x : Bt × Unit => num2 wideF x.1.l) := num7_of wideF wide_ok
noncomputable def light7Row (k : Nat) : Row A := rowIn Try.prog [] [] (lightO' k) 8 91 Try.f91
theorem light7Row_ok (k : Nat) : RowOK Try.prog (light7Row k) := rowIn_ok (TblOK.nil _) (ITblOK.nil _) (lightO' k) 8 Try.func91 (by kernel_rfl) (by kernel_rfl)

end Go.Proofs.Ytbdbmcdcjejffaa
