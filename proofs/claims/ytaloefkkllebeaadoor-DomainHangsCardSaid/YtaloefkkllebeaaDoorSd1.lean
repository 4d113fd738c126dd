/- From a contract to a statement where the rounds' words are laid: the law of rows; the card. -/
import Derived.Test.YtaloefkkllebeaaDoorTa
import Derived.Test.YtaloefkkllebeaaDoorFlB
import Derived.Test.YtaloefkkllebeaaDoorTie
import Derived.Test.YtaloefkkllebeaaDoorCards
import Derived.ChangeVars
import Derived.MakeChecks
import Derived.LaidLaws
import Derived.LaidHandle
import Derived.Lib.LaidU8
set_option linter.unusedVariables false
set_option linter.unusedSimpArgs false
set_option linter.unusedSectionVars false
set_option maxRecDepth 100000
namespace Go.Proofs.YtaloefkkllebeaaDoor
open Go Go.Sh Go.RowKit Go.ChangeShapes Go.ChangeAt Go.WideShapes
/-- What the rows list. -/
abbrev laidL : List (String × DataW Unit) := [("pharos/sha.rounds", Rows.laid_pharos_sha_rounds)]
theorem rounds_global : Tryd.prog.globalNamed "pharos/sha.rounds" = some 0 := by kernel_rfl
theorem rounds_type : (Tryd.prog.globals[0]?).map (·.type) = some 138 := by kernel_rfl
def roundZ : List Int := roundL.map fun x => (x.toNat : Int)
theorem laid_tab : (Rows.laid_pharos_sha_rounds : DataW Unit) = Lib.tabData .u32 roundZ := by kernel_rfl
theorem rounds_in {W : World} (h : laidMetH Tryd.prog laidL W) : RoundsIn W.cell? := by
  rw [MakeChecks.laidMetH_plain _ _ _ (by kernel_rfl)] at h
  obtain ⟨g, t, cs, fuel, p, hg, hty, hvar, hd⟩ := Lib.laidMet.reads h List.mem_cons_self
  obtain rfl := Option.some.inj (rounds_global.symm.trans hg)
  obtain rfl := Option.some.inj (rounds_type.symm.trans hty)
  rw [laid_tab] at hd
  have hcs := Lib.cells_of_tab (n := 64) (e := 36) (by kernel_rfl) (by kernel_rfl) (by kernel_rfl) (by kernel_rfl) hd
  intro b hb j hj
  obtain rfl := Option.some.inj hb
  refine ⟨.int .u32 (roundK (0 + j)).toNat, ?_, rfl⟩
  have := World.var?_cell hg hvar j
  rw [← Array.getElem?_toList, hcs] at this
  have e : (⟨0, 0, none⟩ : Addr).add (0 + j) = ⟨0, j, none⟩ := by rw [Nat.zero_add, add_none, Nat.zero_add]
  rw [e, this, Nat.zero_add, List.getElem?_map]
  unfold roundZ roundK
  rw [List.getElem?_map, pickN_at 0 roundL j (show j < 64 from hj)]
  rfl
/-- A world in which they are laid. -/
noncomputable def laidWorld (os : Os) : World :=
  { World.holding Tryd.prog os ⟨#[], #[], []⟩ with heap := (World.holding Tryd.prog os ⟨#[], #[], []⟩).heap.modify 0 fun
      | .cells _ t frozen => .cells (roundL.map fun x => Value.int .u32 x.toNat).toArray t frozen
      | o => o }
theorem laidWorld_os (os : Os) : (laidWorld os).os = os := by kernel_rfl
theorem law_returnsL {H : Type} {enc : TypeId × Value → H} {os : Os} {f : FuncId} {fn : Func} {s : ChangeSpec} {apart fresh handsOn again : Bool} {tb : TypeId} {Γ : Type} [Args A Γ] [OpensAll A Γ] (hc : Computes A Tryd.prog f (fun _ : GA Γ => true))
    (n : Nat) (hk : fn.params.toList.map (shapeOf Tryd.prog n) = (OpensAll.shapes A Γ).map some)
    (started : os.Started) (hfn : Tryd.prog.funcs[f]? = some fn) (hnm : (fn.name == "runtime.NumGoroutine") = false) (hbd : fn.body.isNone = false) (noInit : Tryd.prog.inits.idxOf? f = none)
    (hr : fn.params.toList.all (fun t => Tryd.prog.readableRec t && decide (t < Tryd.prog.types.size)) = true) (hv : s.vars = []) (hrt : fn.resultTypes = #[tb]) (htb : Tryd.prog.underlying tb = some .bool)
    (hs : ∀ ds : List (DataW H), ds.length = fn.params.size → s.fn H ds = { results := [.lit (.bool true)], args := ds }) (args0 : Array Value)
    (hvb : ((laidWorld os).forCall (fun _ _ => 0) ⟨#[], args0, []⟩).variablesB Tryd.prog = true)
    (hrest : (((laidWorld os).forCall (fun _ _ => 0) ⟨#[], args0, []⟩).heap.toList.drop Tryd.prog.globals.size).take ((begin Tryd.prog (fun _ _ => 0) default).world.heap.size - Tryd.prog.globals.size) =
      (begin Tryd.prog (fun _ _ => 0) default).world.heap.toList.drop Tryd.prog.globals.size)
    (hok : Input.okWideB Tryd.prog ((laidWorld os).forCall (fun _ _ => 0) ⟨#[], args0, []⟩) f ⟨#[], args0, []⟩ = true)
    (hpre : s.preB enc Tryd.prog fn [] apart ((laidWorld os).forCall (fun _ _ => 0) ⟨#[], args0, []⟩).memory args0 8 = true)
    (hsz : s.sizedB enc Tryd.prog fn apart ((laidWorld os).forCall (fun _ _ => 0) ⟨#[], args0, []⟩).memory args0 8 = true)
    (hx : laidMetH Tryd.prog laidL ((laidWorld os).forCall (fun _ _ => 0) ⟨#[], args0, []⟩).memory) :
    ReturnsInHanded {} Tryd.checked os f .any (fun w args => (s.pre enc Tryd.prog fn [] apart w args ∧ laidMetH Tryd.prog laidL w) ∧ sizedMet enc Tryd.prog fn (OpenSpec.ofChange s) apart w args) (s.post enc Tryd.prog fn apart fresh handsOn again) := by
  have trodLen : ∀ (ts : List TypeId) (vs : List Value) (ds : List (DataW H)) (ps : List MemPlace) (W : World), DataW.TrodAll enc Tryd.prog W 0 (fun _ => true) true ts vs ds ps → ds.length = ts.length := by
    intro ts
    induction ts with
    | nil =>
      intro vs ds ps W h
      match vs, ds, h with
      | [], [], _ => rfl
    | cons t ts ih =>
      intro vs ds ps W h
      match vs, ds, h with
      | v :: vs, d :: ds, ⟨p, q, _, h2, _⟩ => simp [ih vs ds q W h2]
  refine returnsInHanded_of_change_and (C := Tryd.checked) (X := fun w _ => laidMetH Tryd.prog laidL w) (fun _ _ _ hh h => h.of_heap hh) Tryd.own started noInit hfn
    (ChangeSpec.witness_at (enc := enc) (C := Tryd.checked) (os := os) (X := fun w _ => laidMetH Tryd.prog laidL w) false (laidWorld os) args0 8 (laidWorld_os os) hvb hrest hok hpre hsz hx) ?_
  intro W base args ds gs before hval hW _ _ hL _
  have hA := hW
  obtain ⟨p, q, hA, _, _, _, _⟩ := hA
  have hlen := trodLen _ _ _ _ _ hA
  obtain ⟨g, x, hg, hx⟩ := OpensAll.opens (A := A) (Γ := Γ) W _ (allShaped _ _ _ _ _ hk (fun j t v h1 h2 => hval j t v (by rw [← Array.getElem?_toList]; exact h1) (by rw [← Array.getElem?_toList]; exact h2)) hA)
  obtain ⟨l⟩ := args
  have hx' : l = Args.vals g x := hx
  subst hx'
  have hgood : Args.good (A := A) W (Γ := GA Γ) g ⟨x⟩ := ⟨rounds_in hL, hg⟩
  rcases hc g ⟨x⟩ W hgood with ⟨v, h1, _⟩ | ⟨_, h2⟩
  · have h1' : (callFunc f (Args.vals g x).toArray).run Tryd.prog W = .ok (.value v) W := h1
    rw [callFunc_enter hfn hnm hbd] at h1'
    simp at h1'
  · refine h2.mono ?_
    rintro e W' ⟨v, rfl, hv1, hk'⟩
    have hv2 : v = Value.bool true := hv1
    subst hv2
    refine ⟨_, rfl, post_of_below Tryd.isLaid ?_ hv (hs ds (by rw [hlen]; simp)) hrt htb hW hk'.below⟩
    intro t ht
    have := List.all_eq_true.1 hr t ht
    rw [Bool.and_eq_true, decide_eq_true_eq] at this
    exact this
theorem Tryd.isMain : Tryd.pinned.checked.prog.mainIs = some (true, "a23171884e622362953752ea66e2d222cf2acf89889b4c7ca8ff3d91595b85ed".toList) := by kernel_rfl
theorem Tryd.noLooks : false = Tryd.pinned.checked.prog.looks [] := by kernel_rfl
end Go.Proofs.YtaloefkkllebeaaDoor
