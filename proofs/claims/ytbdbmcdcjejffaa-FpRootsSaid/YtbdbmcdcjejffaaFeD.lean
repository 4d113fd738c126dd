/- Fp: the product on words. -/
import Derived.Test.YtbdbmcdcjejffaaFeC
import Derived.Test.YtbdbmcdcjejffaaEnL
set_option linter.unusedVariables false
set_option linter.unusedSimpArgs false
set_option linter.unusedSectionVars false
namespace Go.Proofs.Ytbdbmcdcjejffaa
open Go Go.Sh

def lim (k : Nat) (l : L6) : UInt64 :=
  match k with
  | 0 => l.1 | 1 => l.2.1 | 2 => l.2.2.1 | 3 => l.2.2.2.1 | 4 => l.2.2.2.2.1 | _ => l.2.2.2.2.2

def mulT (a b : L6) : Nat → L6
  | 0 => zero6
  | k + 1 => rnd b (mulT a b k) (lim k a)

def sv6 (l : L6) : List (SV A) := [.a (.u64 l.1), .a (.u64 l.2.1), .a (.u64 l.2.2.1), .a (.u64 l.2.2.2.1), .a (.u64 l.2.2.2.2.1), .a (.u64 l.2.2.2.2.2)]
def lit6 : List (SV A) := [.v (.int .u64 0), .v (.int .u64 0), .v (.int .u64 0), .v (.int .u64 0), .v (.int .u64 0), .v (.int .u64 0)]

/-- The product's loop, at its head: k rows have been. -/
def mulHead (a b : L6) (t : List (SV A)) (k : Nat) : St A :=
  ⟨slots 0 136 ([(2, .val false [.p 0 0]), (3, .val false [.p 1 0]), (4, .val false [.p 2 0])] ++ (t.zipIdx 5).map (fun x => (x.2, .val false [x.1])) ++ [(18, .val true (sv6 a)), (19, .val false [.v (.int .i64 k)])]),
   [some ⟨sv6 a, 28, false⟩, some ⟨sv6 b, 28, false⟩, some ⟨lit6, 28, false⟩], 0, [], []⟩

def mulSt (a b : L6) : Nat → St A
  | 0 => mulHead a b lit6 0
  | k + 1 => mulHead a b (sv6 (mulT a b (k + 1))) (k + 1)

theorem mul_round0 (a b : L6) (c : Cfg A) (e1 : c.P = Try.prog) (e2 : c.gl = fun _ => none) (e4 : c.ys = []) :
    Round c (loopNo Try.f45 3) (mulHead a b lit6 0) .normal (mulHead a b (sv6 (rnd b zero6 a.1)) 1) :=
  Round.of0 tblC_ok (fun _ _ => .keep) 4 [] (by kernel_rfl) trivial (by kernel_rfl) (by kernel_rfl) e1 e2 rfl e4

theorem mul_round (a b t : L6) (c : Cfg A) (e1 : c.P = Try.prog) (e2 : c.gl = fun _ => none) (e4 : c.ys = []) (k : Nat) (h0 : 0 < k) (hk : k < 6) :
    Round c (loopNo Try.f45 3) (mulHead a b (sv6 t) k) .normal (mulHead a b (sv6 (rnd b t (lim k a))) (k + 1)) := by
  have : k = 1 ∨ k = 2 ∨ k = 3 ∨ k = 4 ∨ k = 5 := by omega
  rcases this with rfl | rfl | rfl | rfl | rfl
  · exact Round.of0 tblC_ok (fun _ _ => .keep) 4 [] (by kernel_rfl) trivial (by kernel_rfl) (by kernel_rfl) e1 e2 rfl e4
  · exact Round.of0 tblC_ok (fun _ _ => .keep) 4 [] (by kernel_rfl) trivial (by kernel_rfl) (by kernel_rfl) e1 e2 rfl e4
  · exact Round.of0 tblC_ok (fun _ _ => .keep) 4 [] (by kernel_rfl) trivial (by kernel_rfl) (by kernel_rfl) e1 e2 rfl e4
  · exact Round.of0 tblC_ok (fun _ _ => .keep) 4 [] (by kernel_rfl) trivial (by kernel_rfl) (by kernel_rfl) e1 e2 rfl e4
  · exact Round.of0 tblC_ok (fun _ _ => .keep) 4 [] (by kernel_rfl) trivial (by kernel_rfl) (by kernel_rfl) e1 e2 rfl e4

theorem mul_last (a b t : L6) (c : Cfg A) (e1 : c.P = Try.prog) (e2 : c.gl = fun _ => none) (e4 : c.ys = []) :
    Round c (loopNo Try.f45 3) (mulHead a b (sv6 t) 6) (.exit 0) (mulHead a b (sv6 t) 6) :=
  Round.of0 tblC_ok (fun _ _ => .keep) 4 [] (by kernel_rfl) trivial (by kernel_rfl) (by kernel_rfl) e1 e2 rfl e4

theorem mul_loop (old : Addr → Option Value) (a b : L6) : SoundFor Try.prog old [] (.loop (loopNo Try.f45 3)) (mulSt a b 0) (.exit 0) (mulSt a b 6) := by
  intro c e1 e2 _ e4
  refine loopAt (inv := mulSt a b) (N := 6) (by simp) (fun k hk => ?_) (mul_last a b _ c e1 e2 e4)
  cases k with
  | zero => exact mul_round0 a b c e1 e2 e4
  | succ k => exact mul_round a b _ c e1 e2 e4 (k + 1) (by omega) hk

def mulRaw (a b : L6) : L6 := mulT a b 6

theorem mulL_ok : Computes A Try.prog 45 (fun x : L6 × L6 × Unit => reducedL (mulRaw x.1 x.2.1)) := by
  refine computes_of_runW tblC_ok (ITblOK.nil _) Try.func45 (by kernel_rfl) (by kernel_rfl) 4 ?_
  rintro _ ⟨a, b, ⟨⟩⟩ W -
  obtain ⟨T, hT⟩ : ∃ T, T = mulRaw a b := ⟨_, rfl⟩
  have hl : SoundFor Try.prog W.cell? [] (.loop (loopNo Try.f45 3)) (mulHead a b lit6 0) (.exit 0) (mulHead a b (sv6 T) 6) := by
    rw [hT]; exact mul_loop _ a b
  refine ⟨fun _ _ => .keep, lps [(3, mulHead a b lit6 0, .exit 0, mulHead a b (sv6 T) 6)], reducedL T, _, ?_, All.cons (toldIs (mulHead a b lit6 0)) All.nil, by rw [hT], ?_⟩
  · kernel_rfl
  · intro body hb
    refine LoopsFor.cons ?_ hl LoopsFor.nil
    obtain rfl := Option.some.inj hb
    kernel_rfl
end Go.Proofs.Ytbdbmcdcjejffaa
