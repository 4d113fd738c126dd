/- The scalar field: reduction, sums, products, on words. -/
import Derived.Test.YtaloefkkllebeaaLi2
set_option linter.unusedVariables false
set_option linter.unusedSimpArgs false
set_option linter.unusedSectionVars false
namespace Go.Proofs.Ytaloefkkllebeaa
open Go Go.Sh
def r6 : L6 := (18446744069414584321, 6034159408538082302, 3691218898639771653, 8353516859464449352, UInt64.ofNat 0, UInt64.ofNat 0)
def pad4 (a : L4) : L6 := (a.1, a.2.1, a.2.2.1, a.2.2.2, UInt64.ofNat 0, UInt64.ofNat 0)
def lo4 (a : L6) : L4 := (a.1, a.2.1, a.2.2.1, a.2.2.2.1)
def red4 (t : L6) : L4 := bif isNil (subTop t r6) then lo4 (sub6 t r6) else lo4 t
theorem orderL_ok : Computes A Try.prog 60 (fun _ : Unit => r6) :=
  computes_of_run0 (TblOK.nil _) Try.func60 (by kernel_rfl) (by kernel_rfl) 4 (fun _ _ _ => by kernel_rfl)
theorem wideL_ok : Computes A Try.prog 63 (fun x : L4 × Unit => pad4 x.1) :=
  computes_of_run0 (TblOK.nil _) Try.func63 (by kernel_rfl) (by kernel_rfl) 4 (fun _ _ _ => by kernel_rfl)
def tblR0 : List (Row A) := [rowOf A 60 (fun _ : Unit => r6), rowOf A 15 (fun x : L6 × L6 × Unit => T2.mk (sub6 x.1 x.2.1) (subTop x.1 x.2.1))]
theorem tblR0_ok : TblOK Try.prog tblR0 := .cons orderL_ok.row (.cons limbsSubL_ok.row (.nil _))
theorem red4_ok : Computes A Try.prog 64 (fun x : L6 × Unit => red4 x.1) := by
  refine computes_of_run tblR0_ok Try.func64 (by kernel_rfl) (by kernel_rfl) 4 ?_
  rintro _ ⟨l, ⟨⟩⟩ W -
  cases hc : isNil (subTop l r6) with
  | true => exact ⟨fun _ _ => .take true, lo4 (sub6 l r6), [isNil (subTop l r6) = true], by kernel_rfl, ⟨hc, trivial⟩, by simp only [red4, hc, cond_true]⟩
  | false => exact ⟨fun _ _ => .take false, lo4 l, [isNil (subTop l r6) = false], by kernel_rfl, ⟨hc, trivial⟩, by simp only [red4, hc, cond_false]⟩
def tblR1 : List (Row A) := rowOf A 63 (fun x : L4 × Unit => pad4 x.1) :: rowOf A 14 (fun x : L6 × L6 × Unit => T2.mk (add6 x.1 x.2.1) (addTop x.1 x.2.1)) :: rowOf A 64 (fun x : L6 × Unit => red4 x.1) ::
  rowOf A 55 (fun x : UInt64 × UInt64 × UInt64 × UInt64 × Unit => (T2.mk (maddHi x.1 x.2.1 x.2.2.1 x.2.2.2.1) (maddLo x.1 x.2.1 x.2.2.1 x.2.2.2.1))) :: tblR0
theorem tblR1_ok : TblOK Try.prog tblR1 := .cons wideL_ok.row (.cons limbsAddL_ok.row (.cons red4_ok.row (.cons madd_ok.row tblR0_ok)))
theorem frAddL_ok : Computes A Try.prog 46 (fun x : L4 × L4 × Unit => red4 (add6 (pad4 x.1) (pad4 x.2.1))) :=
  computes_of_run0 tblR1_ok Try.func46 (by kernel_rfl) (by kernel_rfl) 4 (fun _ _ _ => by kernel_rfl)
theorem frNegL_ok : Computes A Try.prog 51 (fun x : L4 × Unit => red4 (sub6 r6 (pad4 x.1))) :=
  computes_of_run0 tblR1_ok Try.func51 (by kernel_rfl) (by kernel_rfl) 4 (fun _ _ _ => by kernel_rfl)
/-- One row of the product. -/
def rnd4 (b t : L4) (x : UInt64) : L4 :=
  let h0 := maddHi x b.1 t.1 (UInt64.ofNat 0)
  let l0 := maddLo x b.1 t.1 (UInt64.ofNat 0)
  let h1 := maddHi x b.2.1 t.2.1 h0
  let l1 := maddLo x b.2.1 t.2.1 h0
  let h2 := maddHi x b.2.2.1 t.2.2.1 h1
  let l2 := maddLo x b.2.2.1 t.2.2.1 h1
  let h3 := maddHi x b.2.2.2 t.2.2.2 h2
  let l3 := maddLo x b.2.2.2 t.2.2.2 h2
  let q := u64 ((l0.toNat : Int) * 18446744069414584319)
  let d0 := maddHi q r6.1 l0 (UInt64.ofNat 0)
  let d1 := maddHi q r6.2.1 l1 d0
  let d2 := maddHi q r6.2.2.1 l2 d1
  let d3 := maddHi q r6.2.2.2.1 l3 d2
  (maddLo q r6.2.1 l1 d0, maddLo q r6.2.2.1 l2 d1, maddLo q r6.2.2.2.1 l3 d2, u64 ((h3.toNat : Int) + d3.toNat))
def zero4 : L4 := (UInt64.ofNat 0, UInt64.ofNat 0, UInt64.ofNat 0, UInt64.ofNat 0)
def limq (k : Nat) (l : L4) : UInt64 :=
  match k with
  | 0 => l.1 | 1 => l.2.1 | 2 => l.2.2.1 | _ => l.2.2.2
def mulT4 (a b : L4) : Nat → L4
  | 0 => zero4
  | k + 1 => rnd4 b (mulT4 a b k) (limq k a)
def sv4 (l : L4) : List (SV A) := [.a (.u64 l.1), .a (.u64 l.2.1), .a (.u64 l.2.2.1), .a (.u64 l.2.2.2)]
def lit0 : SV A := .v (.int .u64 0)
/-- The product's loop, at its head: k rows have been. -/
def frHead (a b : L4) (t : List (SV A)) (k : Nat) : St A :=
  ⟨slots 0 81 [(2, .val false [.p 0 0]), (3, .val false [.p 1 0]), (4, .val false [.p 2 0]), (5, .val false [.p 3 0]), (6, .val false [.p 4 0]), (16, .val true (sv4 a)), (17, .val false [.v (.int .i64 k)])],
   [some ⟨sv4 a, 59, false⟩, some ⟨sv4 b, 59, false⟩, some ⟨[lit0, lit0, lit0, lit0], 59, false⟩,
    some ⟨[.a (.u64 r6.1), .a (.u64 r6.2.1), .a (.u64 r6.2.2.1), .a (.u64 r6.2.2.2.1), .a (.u64 r6.2.2.2.2.1), .a (.u64 r6.2.2.2.2.2)], 23, false⟩, some ⟨t ++ [lit0, lit0], 23, false⟩], 0, [], []⟩
def litq : List (SV A) := [lit0, lit0, lit0, lit0]
def frSt (a b : L4) : Nat → St A
  | 0 => frHead a b litq 0
  | k + 1 => frHead a b (sv4 (mulT4 a b (k + 1))) (k + 1)
theorem fr_round0 (a b : L4) (c : Cfg A) (e1 : c.P = Try.prog) (e2 : c.gl = fun _ => none) (e4 : c.ys = []) :
    Round c (loopNo Try.f48 4) (frHead a b litq 0) .normal (frHead a b (sv4 (rnd4 b zero4 a.1)) 1) :=
  Round.of0 tblR1_ok (fun _ _ => .keep) 8 [] (by kernel_rfl) trivial (by kernel_rfl) (by kernel_rfl) e1 e2 rfl e4
theorem fr_round (a b t : L4) (c : Cfg A) (e1 : c.P = Try.prog) (e2 : c.gl = fun _ => none) (e4 : c.ys = []) (k : Nat) (h0 : 0 < k) (hk : k < 4) :
    Round c (loopNo Try.f48 4) (frHead a b (sv4 t) k) .normal (frHead a b (sv4 (rnd4 b t (limq k a))) (k + 1)) := by
  have : k = 1 ∨ k = 2 ∨ k = 3 := by omega
  rcases this with rfl | rfl | rfl
  · exact Round.of0 tblR1_ok (fun _ _ => .keep) 8 [] (by kernel_rfl) trivial (by kernel_rfl) (by kernel_rfl) e1 e2 rfl e4
  · exact Round.of0 tblR1_ok (fun _ _ => .keep) 8 [] (by kernel_rfl) trivial (by kernel_rfl) (by kernel_rfl) e1 e2 rfl e4
  · exact Round.of0 tblR1_ok (fun _ _ => .keep) 8 [] (by kernel_rfl) trivial (by kernel_rfl) (by kernel_rfl) e1 e2 rfl e4
theorem fr_last (a b t : L4) (c : Cfg A) (e1 : c.P = Try.prog) (e2 : c.gl = fun _ => none) (e4 : c.ys = []) :
    Round c (loopNo Try.f48 4) (frHead a b (sv4 t) 4) (.exit 0) (frHead a b (sv4 t) 4) :=
  Round.of0 tblR1_ok (fun _ _ => .keep) 8 [] (by kernel_rfl) trivial (by kernel_rfl) (by kernel_rfl) e1 e2 rfl e4
theorem fr_loop (old : Addr → Option Value) (a b : L4) : SoundFor Try.prog old [] (.loop (loopNo Try.f48 4)) (frSt a b 0) (.exit 0) (frSt a b 4) := by
  intro c e1 e2 _ e4
  refine loopAt (inv := frSt a b) (N := 4) (by simp) (fun k hk => ?_) (fr_last a b _ c e1 e2 e4)
  cases k with
  | zero => exact fr_round0 a b c e1 e2 e4
  | succ k => exact fr_round a b _ c e1 e2 e4 (k + 1) (by omega) hk
def mul4 (a b : L4) : L4 := red4 (pad4 (mulT4 a b 4))
theorem frMulL_ok : Computes A Try.prog 48 (fun x : L4 × L4 × Unit => mul4 x.1 x.2.1) := by
  refine computes_of_runW tblR1_ok (ITblOK.nil _) Try.func48 (by kernel_rfl) (by kernel_rfl) 4 ?_
  rintro _ ⟨a, b, ⟨⟩⟩ W -
  obtain ⟨T, hT⟩ : ∃ T, T = mulT4 a b 4 := ⟨_, rfl⟩
  have hl : SoundFor Try.prog W.cell? [] (.loop (loopNo Try.f48 4)) (frHead a b litq 0) (.exit 0) (frHead a b (sv4 T) 4) := by
    rw [hT]; exact fr_loop _ a b
  refine ⟨fun _ _ => .keep, lps [(4, frHead a b litq 0, .exit 0, frHead a b (sv4 T) 4)], red4 (pad4 T), [ToldIs (frHead a b litq 0)], ?_, All.cons (toldIs (frHead a b litq 0)) All.nil, by rw [hT]; rfl, ?_⟩
  · kernel_rfl
  · intro body hb
    refine LoopsFor.cons ?_ hl LoopsFor.nil
    obtain rfl := Option.some.inj hb
    kernel_rfl
end Go.Proofs.Ytaloefkkllebeaa
