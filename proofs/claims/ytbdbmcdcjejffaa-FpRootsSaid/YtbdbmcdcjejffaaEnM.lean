/- Contracts by runs whose tables hang on the arguments. -/
import Derived.Test.YtbdbmcdcjejffaaEnL
set_option linter.unusedVariables false
set_option linter.unusedSimpArgs false
set_option linter.unusedSectionVars false
namespace Go.Sh
open Go.RowKit
section
variable {A : Type} [Atom A]

/-- A contract by runs: the tables, too, may hang on the arguments. -/
theorem computes_of_runT {P : Program} {Γ R : Type} [Args A Γ] [Ret A R] {g : FuncId} {fn : Func} {f : Γ → R} (hf : P.funcs[g]? = some fn)
    (hn : (fn.name == "runtime.NumGoroutine") = false) (hb : fn.body.isNone = false) (fuel : Nat)
    (h : ∀ (gh : Args.G A Γ) (x : Γ) (W : World), Args.good W gh x → ∃ (tbl : List (Row A)) (its : List (IRow A)), TblOK P tbl ∧ ITblOK P its ∧ ∃ orc lp y vc, (run (cfgW P tbl its orc W.cell? lp [] noYield) fuel fn (Args.tvs gh x) []).map retOf = some (some y, vc) ∧ All vc ∧ y = f x ∧
      ∀ body, fn.body = some body → LoopsFor P W.cell? [] lp body) : Computes A P g f := by
  intro gh x W hg
  obtain ⟨tbl, its, ht, hi, orc, lp, y, vc, h1, h2, h3, h4⟩ := h gh x W hg
  refine .inr ⟨callFunc_enter hf hn hb _ W, ?_⟩
  cases hr : run (cfgW P tbl its orc W.cell? lp [] noYield) fuel fn (Args.tvs gh x) [] with
  | none => rw [hr] at h1; cases h1
  | some z =>
    obtain ⟨res, m', vc'⟩ := z
    rw [hr] at h1
    obtain ⟨v1, h5, rfl⟩ := retOf_some (Option.some.inj h1)
    have h2' := h2.mem
    have := run_sound (cfgOK0 ht hi orc W.cell? lp) rfl (c := cfgW P tbl its orc W.cell? lp [] noYield) hf (fun body hbd => h4 body hbd _ rfl rfl rfl rfl rfl) hr (fun p hp => h2' p (List.mem_append_right _ hp)) (X := fun _ => False) (W0 := W) (W := W) (β := Adr.nil) (mrel_nil _ W rfl rfl) (fun _ _ => ⟨rfl, fun _ => rfl⟩) (Args.is _ hg)
    refine this.mono ?_
    rintro e W' ⟨v, rfl, β', _, hv, hm', _⟩
    exact ⟨v, rfl, by rw [← h3]; exact Ret.ok h5 (fun p hp => h2' p (List.mem_append_left _ hp)) hm' hv, hm'.ext⟩

/-- The same without told loops. -/
theorem computes_of_runT0 {P : Program} {Γ R : Type} [Args A Γ] [Ret A R] {g : FuncId} {fn : Func} {f : Γ → R} (hf : P.funcs[g]? = some fn)
    (hn : (fn.name == "runtime.NumGoroutine") = false) (hb : fn.body.isNone = false) (fuel : Nat)
    (h : ∀ (gh : Args.G A Γ) (x : Γ) (W : World), Args.good W gh x → ∃ tbl, TblOK P tbl ∧ ∃ orc y vc, (run (cfg P tbl orc W.cell?) fuel fn (Args.tvs gh x) []).map retOf = some (some y, vc) ∧ All vc ∧ y = f x) : Computes A P g f :=
  computes_of_runT hf hn hb fuel (fun gh x W hg => by
    obtain ⟨tbl, ht, orc, y, vc, h1, h2, h3⟩ := h gh x W hg
    exact ⟨tbl, [], ht, ITblOK.nil P, orc, noLoop, y, vc, h1, h2, h3, fun body _ => loopsFor_none⟩)
end
end Go.Sh
