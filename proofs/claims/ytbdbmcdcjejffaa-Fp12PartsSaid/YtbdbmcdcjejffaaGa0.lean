/- Elements of hexadecimal digits: the program's constants. -/
import Derived.Test.YtbdbmcdcjejffaaFp2
set_option linter.unusedVariables false
set_option linter.unusedSimpArgs false
set_option linter.unusedSectionVars false
set_option maxRecDepth 100000
namespace Go.Proofs.Ytbdbmcdcjejffaa
open Go Go.Sh

/-- The texts that the program reads as elements. -/
inductive TxK where
  | half
  | v1
  | v2
  | w0
  | w1
  | none
deriving DecidableEq

def TxK.txt : TxK → List UInt8
  | .half => [100, 48, 48, 56, 56, 102, 53, 49, 99, 98, 102, 102, 51, 52, 100, 50, 53, 56, 100, 100, 51, 100, 98, 50, 49, 97, 53, 100, 54, 54, 98, 98, 50, 51, 98, 97, 53, 99, 50, 55, 57, 99, 50, 56, 57, 53, 102, 98, 51, 57, 56, 54, 57, 53, 48, 55, 98, 53, 56, 55, 98, 49, 50, 48, 102, 53, 53, 102, 102, 102, 102, 53, 56, 97, 57, 102, 102, 102, 102, 100, 99, 102, 102, 55, 102, 102, 102, 102, 102, 102, 102, 100, 53, 53, 54]
  | .v1 => [49, 97, 48, 49, 49, 49, 101, 97, 51, 57, 55, 102, 101, 54, 57, 57, 101, 99, 48, 50, 52, 48, 56, 54, 54, 51, 100, 52, 100, 101, 56, 53, 97, 97, 48, 100, 56, 53, 55, 100, 56, 57, 55, 53, 57, 97, 100, 52, 56, 57, 55, 100, 50, 57, 54, 53, 48, 102, 98, 56, 53, 102, 57, 98, 52, 48, 57, 52, 50, 55, 101, 98, 52, 102, 52, 57, 102, 102, 102, 100, 56, 98, 102, 100, 48, 48, 48, 48, 48, 48, 48, 48, 97, 97, 97, 99]
  | .v2 => [49, 97, 48, 49, 49, 49, 101, 97, 51, 57, 55, 102, 101, 54, 57, 57, 101, 99, 48, 50, 52, 48, 56, 54, 54, 51, 100, 52, 100, 101, 56, 53, 97, 97, 48, 100, 56, 53, 55, 100, 56, 57, 55, 53, 57, 97, 100, 52, 56, 57, 55, 100, 50, 57, 54, 53, 48, 102, 98, 56, 53, 102, 57, 98, 52, 48, 57, 52, 50, 55, 101, 98, 52, 102, 52, 57, 102, 102, 102, 100, 56, 98, 102, 100, 48, 48, 48, 48, 48, 48, 48, 48, 97, 97, 97, 100]
  | .w0 => [49, 57, 48, 52, 100, 51, 98, 102, 48, 50, 98, 98, 48, 54, 54, 55, 99, 50, 51, 49, 98, 101, 98, 52, 50, 48, 50, 99, 48, 100, 49, 102, 48, 102, 100, 54, 48, 51, 102, 100, 51, 99, 98, 100, 53, 102, 52, 102, 55, 98, 50, 52, 52, 51, 100, 55, 56, 52, 98, 97, 98, 57, 99, 52, 102, 54, 55, 101, 97, 53, 51, 100, 54, 51, 101, 55, 56, 49, 51, 100, 56, 100, 48, 55, 55, 53, 101, 100, 57, 50, 50, 51, 53, 102, 98, 56]
  | .w1 => [102, 99, 51, 101, 50, 98, 51, 54, 99, 52, 101, 48, 51, 50, 56, 56, 101, 57, 101, 57, 48, 50, 50, 51, 49, 102, 57, 102, 98, 56, 53, 52, 97, 49, 52, 55, 56, 55, 98, 54, 99, 55, 98, 51, 54, 102, 101, 99, 48, 99, 56, 101, 99, 57, 55, 49, 102, 54, 51, 99, 53, 102, 50, 56, 50, 100, 53, 97, 99, 49, 52, 100, 54, 99, 55, 101, 99, 50, 50, 99, 102, 55, 56, 97, 49, 50, 54, 100, 100, 99, 52, 97, 102, 51]
  | .none => []
def TxK.num : TxK → Nat
  | .half => 2001204777610833696708894912867952078278441409969503942666029068062015825245418932221343814564507832018947136279894
  | .v1 => 4002409555221667392624310435006688643935503118305586438271171395842971157480381377015405980053539358417135540939436
  | .v2 => 4002409555221667392624310435006688643935503118305586438271171395842971157480381377015405980053539358417135540939437
  | .w0 => 3850754370037169011952147076051364057158807420970682438676050522613628423219637725072182697113062777891589506424760
  | .w1 => 151655185184498381465642749684540099398075398968325446656007613510403227271200139370504932015952886146304766135027
  | .none => 0
def TxK.fp (k : TxK) : Fp := fpN k.num
def TxK.val (k : TxK) : Value := .string ⟨k.txt.toArray⟩
def txkParse (b : ByteArray) : Option TxK :=
  if b.data.toList = TxK.half.txt then some .half else if b.data.toList = TxK.v1.txt then some .v1 else if b.data.toList = TxK.v2.txt then some .v2 else if b.data.toList = TxK.w0.txt then some .w0 else if b.data.toList = TxK.w1.txt then some .w1 else if b.data.toList = [] then some .none else none
theorem txkParse_ok {b : ByteArray} {k : TxK} (h : txkParse b = some k) : Value.string b = k.val := by
  have e : ∀ l : List UInt8, b.data.toList = l → Value.string b = .string ⟨l.toArray⟩ := by
    rintro l rfl
    obtain ⟨a⟩ := b
    simp
  unfold txkParse at h
  repeat' split at h
  all_goals (first | cases h | skip)
  all_goals (rename_i h; exact e _ h)
instance : Arg A TxK where
  G := Unit
  good _ _ _ := True
  tv _ k := .val false [.v k.val]
  val _ k := k.val
  is _ _ := LIs.of_single ⟨rfl, rfl⟩
  parse _ _ t := match t with | .val false [.v (.string b)] => (match txkParse b with | some k => some (k, []) | none => none) | _ => none
  ok := by
    intro c X W0 W β m t x vc v h _ _ e
    split at h
    · split at h
      · rename_i k hk
        simp at h
        obtain ⟨rfl, rfl⟩ := h
        obtain ⟨e1, _⟩ := LIs.single (e : LIs β _ [v])
        simp at e1
        exact ⟨(), trivial, by rw [e1]; exact txkParse_ok hk⟩
      · cases h
    · cases h

def tblTx : List (Row A) := [rowOf A 147 (fun x : Pl × Unit => x.1.x)]
theorem tblTx_ok : TblOK Try.prog tblTx := .cons made_ok.row (.nil _)

theorem text_half (old : Addr → Option Value) : (run (cfg Try.prog tblTx (fun _ _ => .keep) old) 100 Try.f188 [.val false [.v (TxK.val .half)]] []).map (retOf (R := Fp)) = some (some (plOf (numO (15924587544893707606, 1105070755758604287, 12941209323636816658, 12843041017062132063, 2706051889235351147, 936899308823769933))).x, [(numO (15924587544893707606, 1105070755758604287, 12941209323636816658, 12843041017062132063, 2706051889235351147, 936899308823769933)).val < pN]) := by kernel_rfl
theorem text_v1 (old : Addr → Option Value) : (run (cfg Try.prog tblTx (fun _ _ => .keep) old) 100 Try.f188 [.val false [.v (TxK.val .v1)]] []).map (retOf (R := Fp)) = some (some (plOf (numO (10087218740379822764, 4653388206581612541, 9907120269317136283, 12253596935368579796, 17006226088849104517, 1873798617647539865))).x, [(numO (10087218740379822764, 4653388206581612541, 9907120269317136283, 12253596935368579796, 17006226088849104517, 1873798617647539865)).val < pN]) := by kernel_rfl
theorem text_v2 (old : Addr → Option Value) : (run (cfg Try.prog tblTx (fun _ _ => .keep) old) 100 Try.f188 [.val false [.v (TxK.val .v2)]] []).map (retOf (R := Fp)) = some (some (plOf (numO (10087218740379822765, 4653388206581612541, 9907120269317136283, 12253596935368579796, 17006226088849104517, 1873798617647539865))).x, [(numO (10087218740379822765, 4653388206581612541, 9907120269317136283, 12253596935368579796, 17006226088849104517, 1873798617647539865)).val < pN]) := by kernel_rfl
theorem text_w0 (old : Addr → Option Value) : (run (cfg Try.prog tblTx (fun _ _ => .keep) old) 100 Try.f188 [.val false [.v (TxK.val .w0)]] []).map (retOf (R := Fp)) = some (some (plOf (numO (10162220747404304312, 17761815663483519293, 8873291758750579140, 1141103941765652303, 13993175198059990303, 1802798568193066599))).x, [(numO (10162220747404304312, 17761815663483519293, 8873291758750579140, 1141103941765652303, 13993175198059990303, 1802798568193066599)).val < pN]) := by kernel_rfl
theorem text_w1 (old : Addr → Option Value) : (run (cfg Try.prog tblTx (fun _ _ => .keep) old) 100 Try.f188 [.val false [.v (TxK.val .w1)]] []).map (retOf (R := Fp)) = some (some (plOf (numO (3240210268673559283, 2895069921743240898, 17009126888523054175, 6098234018649060207, 9865672654120263608, 71000049454473266))).x, [(numO (3240210268673559283, 2895069921743240898, 17009126888523054175, 6098234018649060207, 9865672654120263608, 71000049454473266)).val < pN]) := by kernel_rfl
theorem text_none (old : Addr → Option Value) : (run (cfg Try.prog tblTx (fun _ _ => .keep) old) 100 Try.f188 [.val false [.v (TxK.val .none)]] []).map (retOf (R := Fp)) = some (some (plOf (numO (0, 0, 0, 0, 0, 0))).x, [(numO (0, 0, 0, 0, 0, 0)).val < pN]) := by kernel_rfl
theorem text_ok : Computes A Try.prog 188 (fun x : TxK × Unit => x.1.fp) := by
  refine computes_of_run tblTx_ok Try.func188 (by kernel_rfl) (by kernel_rfl) 100 ?_
  rintro _ ⟨k, ⟨⟩⟩ W -
  cases k
  · exact ⟨fun _ _ => .keep, _, _, text_half _, ⟨of_decide_eq_true (by kernel_rfl), trivial⟩, by kernel_rfl⟩
  · exact ⟨fun _ _ => .keep, _, _, text_v1 _, ⟨of_decide_eq_true (by kernel_rfl), trivial⟩, by kernel_rfl⟩
  · exact ⟨fun _ _ => .keep, _, _, text_v2 _, ⟨of_decide_eq_true (by kernel_rfl), trivial⟩, by kernel_rfl⟩
  · exact ⟨fun _ _ => .keep, _, _, text_w0 _, ⟨of_decide_eq_true (by kernel_rfl), trivial⟩, by kernel_rfl⟩
  · exact ⟨fun _ _ => .keep, _, _, text_w1 _, ⟨of_decide_eq_true (by kernel_rfl), trivial⟩, by kernel_rfl⟩
  · exact ⟨fun _ _ => .keep, _, _, text_none _, ⟨of_decide_eq_true (by kernel_rfl), trivial⟩, by kernel_rfl⟩

end Go.Proofs.Ytbdbmcdcjejffaa
