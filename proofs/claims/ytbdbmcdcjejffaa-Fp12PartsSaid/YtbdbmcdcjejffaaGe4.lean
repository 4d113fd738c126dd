/- Extensions by a root of v^3 = s, of w^2 = s. -/
import Derived.Test.YtbdbmcdcjejffaaGe3
set_option linter.unusedVariables false
set_option linter.unusedSimpArgs false
set_option linter.unusedSectionVars false
namespace Go.Proofs.Ytbdbmcdcjejffaa
open Go Go.Sh

section
variable {X : Type} [CR X] (s : X)
def m3 (a b : X × X × X) : X × X × X := ((CR.p (CR.m a.1 b.1) (CR.m s (CR.p (CR.m a.2.1 b.2.2) (CR.m a.2.2 b.2.1)))), (CR.p (CR.p (CR.m a.1 b.2.1) (CR.m a.2.1 b.1)) (CR.m s (CR.m a.2.2 b.2.2))), (CR.p (CR.p (CR.m a.1 b.2.2) (CR.m a.2.1 b.2.1)) (CR.m a.2.2 b.1)))
def m2 (a b : X × X) : X × X := ((CR.p (CR.m a.1 b.1) (CR.m s (CR.m a.2 b.2))), (CR.p (CR.m a.1 b.2) (CR.m a.2 b.1)))
/-- The extension is a commutative ring. -/
@[reducible] def cub : CR (X × X × X) where
  o := (CR.o, CR.o, CR.o)
  i := (CR.i, CR.o, CR.o)
  p a b := ((CR.p a.1 b.1), (CR.p a.2.1 b.2.1), (CR.p a.2.2 b.2.2))
  m := m3 s
  n a := ((CR.n a.1), (CR.n a.2.1), (CR.n a.2.2))
  pC a b := Prod.ext (CX.ring (envL [s, a.1, a.2.1, a.2.2, b.1, b.2.1, b.2.2]) (e := (.a (.v 1) (.v 4))) (f := (.a (.v 4) (.v 1))) (by kernel_rfl)) (Prod.ext (CX.ring (envL [s, a.1, a.2.1, a.2.2, b.1, b.2.1, b.2.2]) (e := (.a (.v 2) (.v 5))) (f := (.a (.v 5) (.v 2))) (by kernel_rfl)) (CX.ring (envL [s, a.1, a.2.1, a.2.2, b.1, b.2.1, b.2.2]) (e := (.a (.v 3) (.v 6))) (f := (.a (.v 6) (.v 3))) (by kernel_rfl)))
  pA a b c := Prod.ext (CX.ring (envL [s, a.1, a.2.1, a.2.2, b.1, b.2.1, b.2.2, c.1, c.2.1, c.2.2]) (e := (.a (.a (.v 1) (.v 4)) (.v 7))) (f := (.a (.v 1) (.a (.v 4) (.v 7)))) (by kernel_rfl)) (Prod.ext (CX.ring (envL [s, a.1, a.2.1, a.2.2, b.1, b.2.1, b.2.2, c.1, c.2.1, c.2.2]) (e := (.a (.a (.v 2) (.v 5)) (.v 8))) (f := (.a (.v 2) (.a (.v 5) (.v 8)))) (by kernel_rfl)) (CX.ring (envL [s, a.1, a.2.1, a.2.2, b.1, b.2.1, b.2.2, c.1, c.2.1, c.2.2]) (e := (.a (.a (.v 3) (.v 6)) (.v 9))) (f := (.a (.v 3) (.a (.v 6) (.v 9)))) (by kernel_rfl)))
  p0 a := Prod.ext (CX.ring (envL [s, a.1, a.2.1, a.2.2]) (e := (.a (.v 1) .z)) (f := (.v 1)) (by kernel_rfl)) (Prod.ext (CX.ring (envL [s, a.1, a.2.1, a.2.2]) (e := (.a (.v 2) .z)) (f := (.v 2)) (by kernel_rfl)) (CX.ring (envL [s, a.1, a.2.1, a.2.2]) (e := (.a (.v 3) .z)) (f := (.v 3)) (by kernel_rfl)))
  pN a := Prod.ext (CX.ring (envL [s, a.1, a.2.1, a.2.2]) (e := (.a (.v 1) (.m (.v 1)))) (f := .z) (by kernel_rfl)) (Prod.ext (CX.ring (envL [s, a.1, a.2.1, a.2.2]) (e := (.a (.v 2) (.m (.v 2)))) (f := .z) (by kernel_rfl)) (CX.ring (envL [s, a.1, a.2.1, a.2.2]) (e := (.a (.v 3) (.m (.v 3)))) (f := .z) (by kernel_rfl)))
  mC a b := Prod.ext (CX.ring (envL [s, a.1, a.2.1, a.2.2, b.1, b.2.1, b.2.2]) (e := (.a (.t (.v 1) (.v 4)) (.t (.v 0) (.a (.t (.v 2) (.v 6)) (.t (.v 3) (.v 5)))))) (f := (.a (.t (.v 4) (.v 1)) (.t (.v 0) (.a (.t (.v 5) (.v 3)) (.t (.v 6) (.v 2)))))) (by kernel_rfl)) (Prod.ext (CX.ring (envL [s, a.1, a.2.1, a.2.2, b.1, b.2.1, b.2.2]) (e := (.a (.a (.t (.v 1) (.v 5)) (.t (.v 2) (.v 4))) (.t (.v 0) (.t (.v 3) (.v 6))))) (f := (.a (.a (.t (.v 4) (.v 2)) (.t (.v 5) (.v 1))) (.t (.v 0) (.t (.v 6) (.v 3))))) (by kernel_rfl)) (CX.ring (envL [s, a.1, a.2.1, a.2.2, b.1, b.2.1, b.2.2]) (e := (.a (.a (.t (.v 1) (.v 6)) (.t (.v 2) (.v 5))) (.t (.v 3) (.v 4)))) (f := (.a (.a (.t (.v 4) (.v 3)) (.t (.v 5) (.v 2))) (.t (.v 6) (.v 1)))) (by kernel_rfl)))
  mA a b c := Prod.ext (CX.ring (envL [s, a.1, a.2.1, a.2.2, b.1, b.2.1, b.2.2, c.1, c.2.1, c.2.2]) (e := (.a (.t (.a (.t (.v 1) (.v 4)) (.t (.v 0) (.a (.t (.v 2) (.v 6)) (.t (.v 3) (.v 5))))) (.v 7)) (.t (.v 0) (.a (.t (.a (.a (.t (.v 1) (.v 5)) (.t (.v 2) (.v 4))) (.t (.v 0) (.t (.v 3) (.v 6)))) (.v 9)) (.t (.a (.a (.t (.v 1) (.v 6)) (.t (.v 2) (.v 5))) (.t (.v 3) (.v 4))) (.v 8)))))) (f := (.a (.t (.v 1) (.a (.t (.v 4) (.v 7)) (.t (.v 0) (.a (.t (.v 5) (.v 9)) (.t (.v 6) (.v 8)))))) (.t (.v 0) (.a (.t (.v 2) (.a (.a (.t (.v 4) (.v 9)) (.t (.v 5) (.v 8))) (.t (.v 6) (.v 7)))) (.t (.v 3) (.a (.a (.t (.v 4) (.v 8)) (.t (.v 5) (.v 7))) (.t (.v 0) (.t (.v 6) (.v 9))))))))) (by kernel_rfl)) (Prod.ext (CX.ring (envL [s, a.1, a.2.1, a.2.2, b.1, b.2.1, b.2.2, c.1, c.2.1, c.2.2]) (e := (.a (.a (.t (.a (.t (.v 1) (.v 4)) (.t (.v 0) (.a (.t (.v 2) (.v 6)) (.t (.v 3) (.v 5))))) (.v 8)) (.t (.a (.a (.t (.v 1) (.v 5)) (.t (.v 2) (.v 4))) (.t (.v 0) (.t (.v 3) (.v 6)))) (.v 7))) (.t (.v 0) (.t (.a (.a (.t (.v 1) (.v 6)) (.t (.v 2) (.v 5))) (.t (.v 3) (.v 4))) (.v 9))))) (f := (.a (.a (.t (.v 1) (.a (.a (.t (.v 4) (.v 8)) (.t (.v 5) (.v 7))) (.t (.v 0) (.t (.v 6) (.v 9))))) (.t (.v 2) (.a (.t (.v 4) (.v 7)) (.t (.v 0) (.a (.t (.v 5) (.v 9)) (.t (.v 6) (.v 8))))))) (.t (.v 0) (.t (.v 3) (.a (.a (.t (.v 4) (.v 9)) (.t (.v 5) (.v 8))) (.t (.v 6) (.v 7))))))) (by kernel_rfl)) (CX.ring (envL [s, a.1, a.2.1, a.2.2, b.1, b.2.1, b.2.2, c.1, c.2.1, c.2.2]) (e := (.a (.a (.t (.a (.t (.v 1) (.v 4)) (.t (.v 0) (.a (.t (.v 2) (.v 6)) (.t (.v 3) (.v 5))))) (.v 9)) (.t (.a (.a (.t (.v 1) (.v 5)) (.t (.v 2) (.v 4))) (.t (.v 0) (.t (.v 3) (.v 6)))) (.v 8))) (.t (.a (.a (.t (.v 1) (.v 6)) (.t (.v 2) (.v 5))) (.t (.v 3) (.v 4))) (.v 7)))) (f := (.a (.a (.t (.v 1) (.a (.a (.t (.v 4) (.v 9)) (.t (.v 5) (.v 8))) (.t (.v 6) (.v 7)))) (.t (.v 2) (.a (.a (.t (.v 4) (.v 8)) (.t (.v 5) (.v 7))) (.t (.v 0) (.t (.v 6) (.v 9)))))) (.t (.v 3) (.a (.t (.v 4) (.v 7)) (.t (.v 0) (.a (.t (.v 5) (.v 9)) (.t (.v 6) (.v 8)))))))) (by kernel_rfl)))
  m1 a := Prod.ext (CX.ring (envL [s, a.1, a.2.1, a.2.2]) (e := (.a (.t (.v 1) .u) (.t (.v 0) (.a (.t (.v 2) .z) (.t (.v 3) .z))))) (f := (.v 1)) (by kernel_rfl)) (Prod.ext (CX.ring (envL [s, a.1, a.2.1, a.2.2]) (e := (.a (.a (.t (.v 1) .z) (.t (.v 2) .u)) (.t (.v 0) (.t (.v 3) .z)))) (f := (.v 2)) (by kernel_rfl)) (CX.ring (envL [s, a.1, a.2.1, a.2.2]) (e := (.a (.a (.t (.v 1) .z) (.t (.v 2) .z)) (.t (.v 3) .u))) (f := (.v 3)) (by kernel_rfl)))
  mD a b c := Prod.ext (CX.ring (envL [s, a.1, a.2.1, a.2.2, b.1, b.2.1, b.2.2, c.1, c.2.1, c.2.2]) (e := (.a (.t (.v 1) (.a (.v 4) (.v 7))) (.t (.v 0) (.a (.t (.v 2) (.a (.v 6) (.v 9))) (.t (.v 3) (.a (.v 5) (.v 8))))))) (f := (.a (.a (.t (.v 1) (.v 4)) (.t (.v 0) (.a (.t (.v 2) (.v 6)) (.t (.v 3) (.v 5))))) (.a (.t (.v 1) (.v 7)) (.t (.v 0) (.a (.t (.v 2) (.v 9)) (.t (.v 3) (.v 8))))))) (by kernel_rfl)) (Prod.ext (CX.ring (envL [s, a.1, a.2.1, a.2.2, b.1, b.2.1, b.2.2, c.1, c.2.1, c.2.2]) (e := (.a (.a (.t (.v 1) (.a (.v 5) (.v 8))) (.t (.v 2) (.a (.v 4) (.v 7)))) (.t (.v 0) (.t (.v 3) (.a (.v 6) (.v 9)))))) (f := (.a (.a (.a (.t (.v 1) (.v 5)) (.t (.v 2) (.v 4))) (.t (.v 0) (.t (.v 3) (.v 6)))) (.a (.a (.t (.v 1) (.v 8)) (.t (.v 2) (.v 7))) (.t (.v 0) (.t (.v 3) (.v 9)))))) (by kernel_rfl)) (CX.ring (envL [s, a.1, a.2.1, a.2.2, b.1, b.2.1, b.2.2, c.1, c.2.1, c.2.2]) (e := (.a (.a (.t (.v 1) (.a (.v 6) (.v 9))) (.t (.v 2) (.a (.v 5) (.v 8)))) (.t (.v 3) (.a (.v 4) (.v 7))))) (f := (.a (.a (.a (.t (.v 1) (.v 6)) (.t (.v 2) (.v 5))) (.t (.v 3) (.v 4))) (.a (.a (.t (.v 1) (.v 9)) (.t (.v 2) (.v 8))) (.t (.v 3) (.v 7))))) (by kernel_rfl)))
/-- The extension is a commutative ring. -/
@[reducible] def quad : CR (X × X) where
  o := (CR.o, CR.o)
  i := (CR.i, CR.o)
  p a b := ((CR.p a.1 b.1), (CR.p a.2 b.2))
  m := m2 s
  n a := ((CR.n a.1), (CR.n a.2))
  pC a b := Prod.ext (CX.ring (envL [s, a.1, a.2, b.1, b.2]) (e := (.a (.v 1) (.v 3))) (f := (.a (.v 3) (.v 1))) (by kernel_rfl)) (CX.ring (envL [s, a.1, a.2, b.1, b.2]) (e := (.a (.v 2) (.v 4))) (f := (.a (.v 4) (.v 2))) (by kernel_rfl))
  pA a b c := Prod.ext (CX.ring (envL [s, a.1, a.2, b.1, b.2, c.1, c.2]) (e := (.a (.a (.v 1) (.v 3)) (.v 5))) (f := (.a (.v 1) (.a (.v 3) (.v 5)))) (by kernel_rfl)) (CX.ring (envL [s, a.1, a.2, b.1, b.2, c.1, c.2]) (e := (.a (.a (.v 2) (.v 4)) (.v 6))) (f := (.a (.v 2) (.a (.v 4) (.v 6)))) (by kernel_rfl))
  p0 a := Prod.ext (CX.ring (envL [s, a.1, a.2]) (e := (.a (.v 1) .z)) (f := (.v 1)) (by kernel_rfl)) (CX.ring (envL [s, a.1, a.2]) (e := (.a (.v 2) .z)) (f := (.v 2)) (by kernel_rfl))
  pN a := Prod.ext (CX.ring (envL [s, a.1, a.2]) (e := (.a (.v 1) (.m (.v 1)))) (f := .z) (by kernel_rfl)) (CX.ring (envL [s, a.1, a.2]) (e := (.a (.v 2) (.m (.v 2)))) (f := .z) (by kernel_rfl))
  mC a b := Prod.ext (CX.ring (envL [s, a.1, a.2, b.1, b.2]) (e := (.a (.t (.v 1) (.v 3)) (.t (.v 0) (.t (.v 2) (.v 4))))) (f := (.a (.t (.v 3) (.v 1)) (.t (.v 0) (.t (.v 4) (.v 2))))) (by kernel_rfl)) (CX.ring (envL [s, a.1, a.2, b.1, b.2]) (e := (.a (.t (.v 1) (.v 4)) (.t (.v 2) (.v 3)))) (f := (.a (.t (.v 3) (.v 2)) (.t (.v 4) (.v 1)))) (by kernel_rfl))
  mA a b c := Prod.ext (CX.ring (envL [s, a.1, a.2, b.1, b.2, c.1, c.2]) (e := (.a (.t (.a (.t (.v 1) (.v 3)) (.t (.v 0) (.t (.v 2) (.v 4)))) (.v 5)) (.t (.v 0) (.t (.a (.t (.v 1) (.v 4)) (.t (.v 2) (.v 3))) (.v 6))))) (f := (.a (.t (.v 1) (.a (.t (.v 3) (.v 5)) (.t (.v 0) (.t (.v 4) (.v 6))))) (.t (.v 0) (.t (.v 2) (.a (.t (.v 3) (.v 6)) (.t (.v 4) (.v 5))))))) (by kernel_rfl)) (CX.ring (envL [s, a.1, a.2, b.1, b.2, c.1, c.2]) (e := (.a (.t (.a (.t (.v 1) (.v 3)) (.t (.v 0) (.t (.v 2) (.v 4)))) (.v 6)) (.t (.a (.t (.v 1) (.v 4)) (.t (.v 2) (.v 3))) (.v 5)))) (f := (.a (.t (.v 1) (.a (.t (.v 3) (.v 6)) (.t (.v 4) (.v 5)))) (.t (.v 2) (.a (.t (.v 3) (.v 5)) (.t (.v 0) (.t (.v 4) (.v 6))))))) (by kernel_rfl))
  m1 a := Prod.ext (CX.ring (envL [s, a.1, a.2]) (e := (.a (.t (.v 1) .u) (.t (.v 0) (.t (.v 2) .z)))) (f := (.v 1)) (by kernel_rfl)) (CX.ring (envL [s, a.1, a.2]) (e := (.a (.t (.v 1) .z) (.t (.v 2) .u))) (f := (.v 2)) (by kernel_rfl))
  mD a b c := Prod.ext (CX.ring (envL [s, a.1, a.2, b.1, b.2, c.1, c.2]) (e := (.a (.t (.v 1) (.a (.v 3) (.v 5))) (.t (.v 0) (.t (.v 2) (.a (.v 4) (.v 6)))))) (f := (.a (.a (.t (.v 1) (.v 3)) (.t (.v 0) (.t (.v 2) (.v 4)))) (.a (.t (.v 1) (.v 5)) (.t (.v 0) (.t (.v 2) (.v 6)))))) (by kernel_rfl)) (CX.ring (envL [s, a.1, a.2, b.1, b.2, c.1, c.2]) (e := (.a (.t (.v 1) (.a (.v 4) (.v 6))) (.t (.v 2) (.a (.v 3) (.v 5))))) (f := (.a (.a (.t (.v 1) (.v 4)) (.t (.v 2) (.v 3))) (.a (.t (.v 1) (.v 6)) (.t (.v 2) (.v 5))))) (by kernel_rfl))
end
theorem kara {X : Type} [CR X] (a b c d : X) : (CR.p (CR.p (CR.m (CR.p a b) (CR.p c d)) (CR.n (CR.m a c))) (CR.n (CR.m b d))) = (CR.p (CR.m a d) (CR.m b c)) :=
  CX.ring (envL [a, b, c, d]) (e := (.a (.a (.t (.a (.v 0) (.v 1)) (.a (.v 2) (.v 3))) (.m (.t (.v 0) (.v 2)))) (.m (.t (.v 1) (.v 3))))) (f := (.a (.t (.v 0) (.v 3)) (.t (.v 1) (.v 2)))) (by kernel_rfl)
theorem adj1 {X : Type} [CR X] (s a b c : X) : (CR.m (CR.p (CR.m s (CR.m c c)) (CR.n (CR.m a b))) (CR.p (CR.m s (CR.m c c)) (CR.n (CR.m a b)))) = (CR.p (CR.m (CR.p (CR.m a a) (CR.n (CR.m s (CR.m b c)))) (CR.p (CR.m b b) (CR.n (CR.m a c)))) (CR.m c (CR.p (CR.m a (CR.p (CR.m a a) (CR.n (CR.m s (CR.m b c))))) (CR.m s (CR.p (CR.m c (CR.p (CR.m s (CR.m c c)) (CR.n (CR.m a b)))) (CR.m b (CR.p (CR.m b b) (CR.n (CR.m a c))))))))) :=
  CX.ring (envL [s, a, b, c]) (e := (.t (.a (.t (.v 0) (.t (.v 3) (.v 3))) (.m (.t (.v 1) (.v 2)))) (.a (.t (.v 0) (.t (.v 3) (.v 3))) (.m (.t (.v 1) (.v 2)))))) (f := (.a (.t (.a (.t (.v 1) (.v 1)) (.m (.t (.v 0) (.t (.v 2) (.v 3))))) (.a (.t (.v 2) (.v 2)) (.m (.t (.v 1) (.v 3))))) (.t (.v 3) (.a (.t (.v 1) (.a (.t (.v 1) (.v 1)) (.m (.t (.v 0) (.t (.v 2) (.v 3)))))) (.t (.v 0) (.a (.t (.v 3) (.a (.t (.v 0) (.t (.v 3) (.v 3))) (.m (.t (.v 1) (.v 2))))) (.t (.v 2) (.a (.t (.v 2) (.v 2)) (.m (.t (.v 1) (.v 3))))))))))) (by kernel_rfl)
theorem adj2 {X : Type} [CR X] (s a b c : X) : (CR.m (CR.p (CR.m a a) (CR.n (CR.m s (CR.m b c)))) (CR.p (CR.m s (CR.m c c)) (CR.n (CR.m a b)))) = (CR.p (CR.m s (CR.m (CR.p (CR.m b b) (CR.n (CR.m a c))) (CR.p (CR.m b b) (CR.n (CR.m a c))))) (CR.n (CR.m b (CR.p (CR.m a (CR.p (CR.m a a) (CR.n (CR.m s (CR.m b c))))) (CR.m s (CR.p (CR.m c (CR.p (CR.m s (CR.m c c)) (CR.n (CR.m a b)))) (CR.m b (CR.p (CR.m b b) (CR.n (CR.m a c)))))))))) :=
  CX.ring (envL [s, a, b, c]) (e := (.t (.a (.t (.v 1) (.v 1)) (.m (.t (.v 0) (.t (.v 2) (.v 3))))) (.a (.t (.v 0) (.t (.v 3) (.v 3))) (.m (.t (.v 1) (.v 2)))))) (f := (.a (.t (.v 0) (.t (.a (.t (.v 2) (.v 2)) (.m (.t (.v 1) (.v 3)))) (.a (.t (.v 2) (.v 2)) (.m (.t (.v 1) (.v 3)))))) (.m (.t (.v 2) (.a (.t (.v 1) (.a (.t (.v 1) (.v 1)) (.m (.t (.v 0) (.t (.v 2) (.v 3)))))) (.t (.v 0) (.a (.t (.v 3) (.a (.t (.v 0) (.t (.v 3) (.v 3))) (.m (.t (.v 1) (.v 2))))) (.t (.v 2) (.a (.t (.v 2) (.v 2)) (.m (.t (.v 1) (.v 3)))))))))))) (by kernel_rfl)
theorem adjm0 {X : Type} [CR X] (s a b c : X) : (CR.p (CR.m a (CR.p (CR.m a a) (CR.n (CR.m s (CR.m b c))))) (CR.m s (CR.p (CR.m b (CR.p (CR.m b b) (CR.n (CR.m a c)))) (CR.m c (CR.p (CR.m s (CR.m c c)) (CR.n (CR.m a b))))))) = (CR.p (CR.m a (CR.p (CR.m a a) (CR.n (CR.m s (CR.m b c))))) (CR.m s (CR.p (CR.m c (CR.p (CR.m s (CR.m c c)) (CR.n (CR.m a b)))) (CR.m b (CR.p (CR.m b b) (CR.n (CR.m a c))))))) :=
  CX.ring (envL [s, a, b, c]) (e := (.a (.t (.v 1) (.a (.t (.v 1) (.v 1)) (.m (.t (.v 0) (.t (.v 2) (.v 3)))))) (.t (.v 0) (.a (.t (.v 2) (.a (.t (.v 2) (.v 2)) (.m (.t (.v 1) (.v 3))))) (.t (.v 3) (.a (.t (.v 0) (.t (.v 3) (.v 3))) (.m (.t (.v 1) (.v 2))))))))) (f := (.a (.t (.v 1) (.a (.t (.v 1) (.v 1)) (.m (.t (.v 0) (.t (.v 2) (.v 3)))))) (.t (.v 0) (.a (.t (.v 3) (.a (.t (.v 0) (.t (.v 3) (.v 3))) (.m (.t (.v 1) (.v 2))))) (.t (.v 2) (.a (.t (.v 2) (.v 2)) (.m (.t (.v 1) (.v 3))))))))) (by kernel_rfl)
theorem adjm1 {X : Type} [CR X] (s a b c : X) : (CR.p (CR.p (CR.m a (CR.p (CR.m s (CR.m c c)) (CR.n (CR.m a b)))) (CR.m b (CR.p (CR.m a a) (CR.n (CR.m s (CR.m b c)))))) (CR.m s (CR.m c (CR.p (CR.m b b) (CR.n (CR.m a c)))))) = CR.o :=
  CX.ring (envL [s, a, b, c]) (e := (.a (.a (.t (.v 1) (.a (.t (.v 0) (.t (.v 3) (.v 3))) (.m (.t (.v 1) (.v 2))))) (.t (.v 2) (.a (.t (.v 1) (.v 1)) (.m (.t (.v 0) (.t (.v 2) (.v 3))))))) (.t (.v 0) (.t (.v 3) (.a (.t (.v 2) (.v 2)) (.m (.t (.v 1) (.v 3)))))))) (f := .z) (by kernel_rfl)
theorem adjm2 {X : Type} [CR X] (s a b c : X) : (CR.p (CR.p (CR.m a (CR.p (CR.m b b) (CR.n (CR.m a c)))) (CR.m b (CR.p (CR.m s (CR.m c c)) (CR.n (CR.m a b))))) (CR.m c (CR.p (CR.m a a) (CR.n (CR.m s (CR.m b c)))))) = CR.o :=
  CX.ring (envL [s, a, b, c]) (e := (.a (.a (.t (.v 1) (.a (.t (.v 2) (.v 2)) (.m (.t (.v 1) (.v 3))))) (.t (.v 2) (.a (.t (.v 0) (.t (.v 3) (.v 3))) (.m (.t (.v 1) (.v 2)))))) (.t (.v 3) (.a (.t (.v 1) (.v 1)) (.m (.t (.v 0) (.t (.v 2) (.v 3)))))))) (f := .z) (by kernel_rfl)
theorem norm_sq {X : Type} [CR X] (s a b c : X) : (CR.p (CR.m (CR.p (CR.m a a) (CR.m s (CR.p (CR.m b c) (CR.m c b)))) (CR.p (CR.m (CR.p (CR.m a a) (CR.m s (CR.p (CR.m b c) (CR.m c b)))) (CR.p (CR.m a a) (CR.m s (CR.p (CR.m b c) (CR.m c b))))) (CR.n (CR.m s (CR.m (CR.p (CR.p (CR.m a b) (CR.m b a)) (CR.m s (CR.m c c))) (CR.p (CR.p (CR.m a c) (CR.m b b)) (CR.m c a))))))) (CR.m s (CR.p (CR.m (CR.p (CR.p (CR.m a c) (CR.m b b)) (CR.m c a)) (CR.p (CR.m s (CR.m (CR.p (CR.p (CR.m a c) (CR.m b b)) (CR.m c a)) (CR.p (CR.p (CR.m a c) (CR.m b b)) (CR.m c a)))) (CR.n (CR.m (CR.p (CR.m a a) (CR.m s (CR.p (CR.m b c) (CR.m c b)))) (CR.p (CR.p (CR.m a b) (CR.m b a)) (CR.m s (CR.m c c))))))) (CR.m (CR.p (CR.p (CR.m a b) (CR.m b a)) (CR.m s (CR.m c c))) (CR.p (CR.m (CR.p (CR.p (CR.m a b) (CR.m b a)) (CR.m s (CR.m c c))) (CR.p (CR.p (CR.m a b) (CR.m b a)) (CR.m s (CR.m c c)))) (CR.n (CR.m (CR.p (CR.m a a) (CR.m s (CR.p (CR.m b c) (CR.m c b)))) (CR.p (CR.p (CR.m a c) (CR.m b b)) (CR.m c a))))))))) = (CR.m (CR.p (CR.m a (CR.p (CR.m a a) (CR.n (CR.m s (CR.m b c))))) (CR.m s (CR.p (CR.m c (CR.p (CR.m s (CR.m c c)) (CR.n (CR.m a b)))) (CR.m b (CR.p (CR.m b b) (CR.n (CR.m a c))))))) (CR.p (CR.m a (CR.p (CR.m a a) (CR.n (CR.m s (CR.m b c))))) (CR.m s (CR.p (CR.m c (CR.p (CR.m s (CR.m c c)) (CR.n (CR.m a b)))) (CR.m b (CR.p (CR.m b b) (CR.n (CR.m a c)))))))) :=
  CX.ring (envL [s, a, b, c]) (e := (.a (.t (.a (.t (.v 1) (.v 1)) (.t (.v 0) (.a (.t (.v 2) (.v 3)) (.t (.v 3) (.v 2))))) (.a (.t (.a (.t (.v 1) (.v 1)) (.t (.v 0) (.a (.t (.v 2) (.v 3)) (.t (.v 3) (.v 2))))) (.a (.t (.v 1) (.v 1)) (.t (.v 0) (.a (.t (.v 2) (.v 3)) (.t (.v 3) (.v 2)))))) (.m (.t (.v 0) (.t (.a (.a (.t (.v 1) (.v 2)) (.t (.v 2) (.v 1))) (.t (.v 0) (.t (.v 3) (.v 3)))) (.a (.a (.t (.v 1) (.v 3)) (.t (.v 2) (.v 2))) (.t (.v 3) (.v 1)))))))) (.t (.v 0) (.a (.t (.a (.a (.t (.v 1) (.v 3)) (.t (.v 2) (.v 2))) (.t (.v 3) (.v 1))) (.a (.t (.v 0) (.t (.a (.a (.t (.v 1) (.v 3)) (.t (.v 2) (.v 2))) (.t (.v 3) (.v 1))) (.a (.a (.t (.v 1) (.v 3)) (.t (.v 2) (.v 2))) (.t (.v 3) (.v 1))))) (.m (.t (.a (.t (.v 1) (.v 1)) (.t (.v 0) (.a (.t (.v 2) (.v 3)) (.t (.v 3) (.v 2))))) (.a (.a (.t (.v 1) (.v 2)) (.t (.v 2) (.v 1))) (.t (.v 0) (.t (.v 3) (.v 3)))))))) (.t (.a (.a (.t (.v 1) (.v 2)) (.t (.v 2) (.v 1))) (.t (.v 0) (.t (.v 3) (.v 3)))) (.a (.t (.a (.a (.t (.v 1) (.v 2)) (.t (.v 2) (.v 1))) (.t (.v 0) (.t (.v 3) (.v 3)))) (.a (.a (.t (.v 1) (.v 2)) (.t (.v 2) (.v 1))) (.t (.v 0) (.t (.v 3) (.v 3))))) (.m (.t (.a (.t (.v 1) (.v 1)) (.t (.v 0) (.a (.t (.v 2) (.v 3)) (.t (.v 3) (.v 2))))) (.a (.a (.t (.v 1) (.v 3)) (.t (.v 2) (.v 2))) (.t (.v 3) (.v 1))))))))))) (f := (.t (.a (.t (.v 1) (.a (.t (.v 1) (.v 1)) (.m (.t (.v 0) (.t (.v 2) (.v 3)))))) (.t (.v 0) (.a (.t (.v 3) (.a (.t (.v 0) (.t (.v 3) (.v 3))) (.m (.t (.v 1) (.v 2))))) (.t (.v 2) (.a (.t (.v 2) (.v 2)) (.m (.t (.v 1) (.v 3)))))))) (.a (.t (.v 1) (.a (.t (.v 1) (.v 1)) (.m (.t (.v 0) (.t (.v 2) (.v 3)))))) (.t (.v 0) (.a (.t (.v 3) (.a (.t (.v 0) (.t (.v 3) (.v 3))) (.m (.t (.v 1) (.v 2))))) (.t (.v 2) (.a (.t (.v 2) (.v 2)) (.m (.t (.v 1) (.v 3)))))))))) (by kernel_rfl)
theorem cube3 {X : Type} [CR X] (y z : X) : (CR.m (CR.m (CR.m y z) (CR.m y z)) (CR.m y z)) = (CR.m (CR.m (CR.m y y) y) (CR.m (CR.m z z) z)) :=
  CX.ring (envL [y, z]) (e := (.t (.t (.t (.v 0) (.v 1)) (.t (.v 0) (.v 1))) (.t (.v 0) (.v 1)))) (f := (.t (.t (.t (.v 0) (.v 0)) (.v 0)) (.t (.t (.v 1) (.v 1)) (.v 1)))) (by kernel_rfl)
theorem cube_inv {X : Type} [CR X] (z t : X) : (CR.m (CR.m (CR.m z z) z) (CR.m (CR.m t t) t)) = (CR.m (CR.m (CR.m z t) (CR.m z t)) (CR.m z t)) :=
  CX.ring (envL [z, t]) (e := (.t (.t (.t (.v 0) (.v 0)) (.v 0)) (.t (.t (.v 1) (.v 1)) (.v 1)))) (f := (.t (.t (.t (.v 0) (.v 1)) (.t (.v 0) (.v 1))) (.t (.v 0) (.v 1)))) (by kernel_rfl)

theorem lin0 {X : Type} [CR X] (s a b c x y z t : X) : (CR.p (CR.m a (CR.m x t)) (CR.m s (CR.p (CR.m b (CR.m z t)) (CR.m c (CR.m y t))))) = (CR.m (CR.p (CR.m a x) (CR.m s (CR.p (CR.m b z) (CR.m c y)))) t) :=
  CX.ring (envL [s, a, b, c, x, y, z, t]) (e := (.a (.t (.v 1) (.t (.v 4) (.v 7))) (.t (.v 0) (.a (.t (.v 2) (.t (.v 6) (.v 7))) (.t (.v 3) (.t (.v 5) (.v 7))))))) (f := (.t (.a (.t (.v 1) (.v 4)) (.t (.v 0) (.a (.t (.v 2) (.v 6)) (.t (.v 3) (.v 5))))) (.v 7))) (by kernel_rfl)
theorem lin1 {X : Type} [CR X] (s a b c x y z t : X) : (CR.p (CR.p (CR.m a (CR.m y t)) (CR.m b (CR.m x t))) (CR.m s (CR.m c (CR.m z t)))) = (CR.m (CR.p (CR.p (CR.m a y) (CR.m b x)) (CR.m s (CR.m c z))) t) :=
  CX.ring (envL [s, a, b, c, x, y, z, t]) (e := (.a (.a (.t (.v 1) (.t (.v 5) (.v 7))) (.t (.v 2) (.t (.v 4) (.v 7)))) (.t (.v 0) (.t (.v 3) (.t (.v 6) (.v 7)))))) (f := (.t (.a (.a (.t (.v 1) (.v 5)) (.t (.v 2) (.v 4))) (.t (.v 0) (.t (.v 3) (.v 6)))) (.v 7))) (by kernel_rfl)
theorem lin2 {X : Type} [CR X] (s a b c x y z t : X) : (CR.p (CR.p (CR.m a (CR.m z t)) (CR.m b (CR.m y t))) (CR.m c (CR.m x t))) = (CR.m (CR.p (CR.p (CR.m a z) (CR.m b y)) (CR.m c x)) t) :=
  CX.ring (envL [s, a, b, c, x, y, z, t]) (e := (.a (.a (.t (.v 1) (.t (.v 6) (.v 7))) (.t (.v 2) (.t (.v 5) (.v 7)))) (.t (.v 3) (.t (.v 4) (.v 7))))) (f := (.t (.a (.a (.t (.v 1) (.v 6)) (.t (.v 2) (.v 5))) (.t (.v 3) (.v 4))) (.v 7))) (by kernel_rfl)
theorem sq2m {X : Type} [CR X] (y z : X) : (CR.m (CR.m y z) (CR.m y z)) = (CR.m (CR.m y y) (CR.m z z)) :=
  CX.ring (envL [y, z]) (e := (.t (.t (.v 0) (.v 1)) (.t (.v 0) (.v 1)))) (f := (.t (.t (.v 0) (.v 0)) (.t (.v 1) (.v 1)))) (by kernel_rfl)
theorem sq2m' {X : Type} [CR X] (z t : X) : (CR.m (CR.m z z) (CR.m t t)) = (CR.m (CR.m z t) (CR.m z t)) :=
  CX.ring (envL [z, t]) (e := (.t (.t (.v 0) (.v 0)) (.t (.v 1) (.v 1)))) (f := (.t (.t (.v 0) (.v 1)) (.t (.v 0) (.v 1)))) (by kernel_rfl)
theorem qin0 {X : Type} [CR X] (s a b t : X) : (CR.p (CR.m a (CR.m a t)) (CR.m s (CR.m b (CR.m (CR.n b) t)))) = (CR.m (CR.p (CR.m a a) (CR.n (CR.m s (CR.m b b)))) t) :=
  CX.ring (envL [s, a, b, t]) (e := (.a (.t (.v 1) (.t (.v 1) (.v 3))) (.t (.v 0) (.t (.v 2) (.t (.m (.v 2)) (.v 3)))))) (f := (.t (.a (.t (.v 1) (.v 1)) (.m (.t (.v 0) (.t (.v 2) (.v 2))))) (.v 3))) (by kernel_rfl)
theorem qin1 {X : Type} [CR X] (s a b t : X) : (CR.p (CR.m a (CR.m (CR.n b) t)) (CR.m b (CR.m a t))) = CR.o :=
  CX.ring (envL [s, a, b, t]) (e := (.a (.t (.v 1) (.t (.m (.v 2)) (.v 3))) (.t (.v 2) (.t (.v 1) (.v 3))))) (f := .z) (by kernel_rfl)
/-- A field's inverses. -/
structure Fld (X : Type) [CR X] (inv : X → X) : Prop where
  inv : ∀ a : X, a ≠ CR.o → CR.m a (inv a) = CR.i
namespace Fld
variable {X : Type} [CR X] {inv : X → X} (F : Fld X inv)
include F
theorem zero {a b : X} (h : CR.m a b = CR.o) : a = CR.o ∨ b = CR.o := by
  by_cases ha : a = CR.o
  · exact .inl ha
  · right
    have h2 := congrArg (CR.m (inv a)) h
    rw [← CR.mA, CR.mC (inv a), F.inv a ha, CR.m1', CR.m0] at h2
    exact h2
theorem cube0 {y : X} (h : CR.m (CR.m y y) y = CR.o) : y = CR.o := by
  rcases F.zero h with h | h
  · exact (F.zero h).elim id id
  · exact h
theorem cancel {a b c : X} (ha : a ≠ CR.o) (h : CR.m a b = CR.m a c) : b = c := by
  have h2 := congrArg (CR.m (inv a)) h
  rw [← CR.mA, ← CR.mA, CR.mC (inv a), F.inv a ha, CR.m1', CR.m1'] at h2
  exact h2
theorem cubes {s : X} (hs : ∀ c : X, CR.m (CR.m c c) c ≠ s) {y z : X} (h : CR.m (CR.m y y) y = CR.m s (CR.m (CR.m z z) z)) : y = CR.o ∧ z = CR.o := by
  have hz : z = CR.o := by
    by_cases hz : z = CR.o
    · exact hz
    · exfalso
      apply hs (CR.m y (inv z))
      rw [cube3, h, CR.mA, cube_inv, F.inv z hz, CR.m1, CR.m1, CR.m1]
  rw [hz, CR.m0, CR.m0] at h
  exact ⟨F.cube0 h, hz⟩
theorem norm3 {s : X} (hs : ∀ c : X, CR.m (CR.m c c) c ≠ s) {a b c : X} (h : (CR.p (CR.m a (CR.p (CR.m a a) (CR.n (CR.m s (CR.m b c))))) (CR.m s (CR.p (CR.m c (CR.p (CR.m s (CR.m c c)) (CR.n (CR.m a b)))) (CR.m b (CR.p (CR.m b b) (CR.n (CR.m a c))))))) = CR.o) : a = CR.o ∧ b = CR.o ∧ c = CR.o := by
  have h1 := adj1 s a b c
  have h2 := adj2 s a b c
  rw [h, CR.m0] at h1 h2
  obtain ⟨x, hx⟩ : ∃ x, x = (CR.p (CR.m a a) (CR.n (CR.m s (CR.m b c)))) := ⟨_, rfl⟩
  obtain ⟨y, hy⟩ : ∃ y, y = (CR.p (CR.m s (CR.m c c)) (CR.n (CR.m a b))) := ⟨_, rfl⟩
  obtain ⟨z, hz⟩ : ∃ z, z = (CR.p (CR.m b b) (CR.n (CR.m a c))) := ⟨_, rfl⟩
  rw [← hx, ← hy, ← hz] at h1 h2
  rw [CR.p0] at h1
  first | rw [CR.n0, CR.p0] at h2 | rw [CR.p0] at h2
  have h3 : CR.m (CR.m y y) y = CR.m s (CR.m (CR.m z z) z) := by
    rw [h1, CR.mC (CR.m x z) y, ← CR.mA, CR.mC y x, h2, CR.mA]
  obtain ⟨rfl, rfl⟩ := F.cubes hs h3
  have e1 : CR.m s (CR.m c c) = CR.m a b := CR.pcan (a := CR.n (CR.m a b)) (by rw [CR.pC, ← hy, CR.pC, CR.pN])
  have e2 : CR.m b b = CR.m a c := CR.pcan (a := CR.n (CR.m a c)) (by rw [CR.pC, ← hz, CR.pC, CR.pN])
  have e3 : CR.m (CR.m b b) b = CR.m s (CR.m (CR.m c c) c) := by
    rw [e2, CR.mC (CR.m a c) b, ← CR.mA, CR.mC b a, ← e1, CR.mA]
  obtain ⟨rfl, rfl⟩ := F.cubes hs e3
  refine ⟨F.cube0 ?_, rfl, rfl⟩
  have h4 := adjm0 s a CR.o CR.o
  simp only [CR.m0, CR.m0', CR.p0, CR.n0] at h h4 hx
  rw [CR.mA]
  exact h
/-- Where s is no cube, the extension by a root of v^3 = s is a field. -/
theorem cubF {s : X} (hs : ∀ c : X, CR.m (CR.m c c) c ≠ s) : @Fld (X × X × X) (cub s) (fun q => (CR.m (CR.p (CR.m q.1 q.1) (CR.n (CR.m s (CR.m q.2.1 q.2.2)))) (inv (CR.p (CR.m q.1 (CR.p (CR.m q.1 q.1) (CR.n (CR.m s (CR.m q.2.1 q.2.2))))) (CR.m s (CR.p (CR.m q.2.2 (CR.p (CR.m s (CR.m q.2.2 q.2.2)) (CR.n (CR.m q.1 q.2.1)))) (CR.m q.2.1 (CR.p (CR.m q.2.1 q.2.1) (CR.n (CR.m q.1 q.2.2)))))))), CR.m (CR.p (CR.m s (CR.m q.2.2 q.2.2)) (CR.n (CR.m q.1 q.2.1))) (inv (CR.p (CR.m q.1 (CR.p (CR.m q.1 q.1) (CR.n (CR.m s (CR.m q.2.1 q.2.2))))) (CR.m s (CR.p (CR.m q.2.2 (CR.p (CR.m s (CR.m q.2.2 q.2.2)) (CR.n (CR.m q.1 q.2.1)))) (CR.m q.2.1 (CR.p (CR.m q.2.1 q.2.1) (CR.n (CR.m q.1 q.2.2)))))))), CR.m (CR.p (CR.m q.2.1 q.2.1) (CR.n (CR.m q.1 q.2.2))) (inv (CR.p (CR.m q.1 (CR.p (CR.m q.1 q.1) (CR.n (CR.m s (CR.m q.2.1 q.2.2))))) (CR.m s (CR.p (CR.m q.2.2 (CR.p (CR.m s (CR.m q.2.2 q.2.2)) (CR.n (CR.m q.1 q.2.1)))) (CR.m q.2.1 (CR.p (CR.m q.2.1 q.2.1) (CR.n (CR.m q.1 q.2.2)))))))))) := by
  refine @Fld.mk _ (cub s) _ ?_
  rintro ⟨a, b, c⟩ h
  have hn : (CR.p (CR.m a (CR.p (CR.m a a) (CR.n (CR.m s (CR.m b c))))) (CR.m s (CR.p (CR.m c (CR.p (CR.m s (CR.m c c)) (CR.n (CR.m a b)))) (CR.m b (CR.p (CR.m b b) (CR.n (CR.m a c))))))) ≠ CR.o := fun e => by
    obtain ⟨rfl, rfl, rfl⟩ := F.norm3 hs e
    exact h rfl
  show m3 s (a, b, c) (CR.m (CR.p (CR.m a a) (CR.n (CR.m s (CR.m b c)))) (inv (CR.p (CR.m a (CR.p (CR.m a a) (CR.n (CR.m s (CR.m b c))))) (CR.m s (CR.p (CR.m c (CR.p (CR.m s (CR.m c c)) (CR.n (CR.m a b)))) (CR.m b (CR.p (CR.m b b) (CR.n (CR.m a c)))))))), CR.m (CR.p (CR.m s (CR.m c c)) (CR.n (CR.m a b))) (inv (CR.p (CR.m a (CR.p (CR.m a a) (CR.n (CR.m s (CR.m b c))))) (CR.m s (CR.p (CR.m c (CR.p (CR.m s (CR.m c c)) (CR.n (CR.m a b)))) (CR.m b (CR.p (CR.m b b) (CR.n (CR.m a c)))))))), CR.m (CR.p (CR.m b b) (CR.n (CR.m a c))) (inv (CR.p (CR.m a (CR.p (CR.m a a) (CR.n (CR.m s (CR.m b c))))) (CR.m s (CR.p (CR.m c (CR.p (CR.m s (CR.m c c)) (CR.n (CR.m a b)))) (CR.m b (CR.p (CR.m b b) (CR.n (CR.m a c))))))))) = (CR.i, CR.o, CR.o)
  have g0 := adjm0 s a b c
  have g1 := adjm1 s a b c
  have g2 := adjm2 s a b c
  revert g0 g1 g2 hn
  generalize (CR.p (CR.m a (CR.p (CR.m a a) (CR.n (CR.m s (CR.m b c))))) (CR.m s (CR.p (CR.m c (CR.p (CR.m s (CR.m c c)) (CR.n (CR.m a b)))) (CR.m b (CR.p (CR.m b b) (CR.n (CR.m a c))))))) = nn
  generalize (CR.p (CR.m a a) (CR.n (CR.m s (CR.m b c)))) = x
  generalize (CR.p (CR.m s (CR.m c c)) (CR.n (CR.m a b))) = y
  generalize (CR.p (CR.m b b) (CR.n (CR.m a c))) = z
  intro hn g0 g1 g2
  have k := F.inv nn hn
  refine Prod.ext ?_ (Prod.ext ?_ ?_)
  · exact (lin0 s a b c x y z (inv nn)).trans ((congrArg (fun q => CR.m q (inv nn)) g0).trans k)
  · exact (lin1 s a b c x y z (inv nn)).trans ((congrArg (fun q => CR.m q (inv nn)) g1).trans (CR.m0' _))
  · exact (lin2 s a b c x y z (inv nn)).trans ((congrArg (fun q => CR.m q (inv nn)) g2).trans (CR.m0' _))
theorem square {s : X} (hs : ∀ c : X, CR.m c c ≠ s) {a b : X} (h : CR.p (CR.m a a) (CR.n (CR.m s (CR.m b b))) = CR.o) : a = CR.o ∧ b = CR.o := by
  have e : CR.m a a = CR.m s (CR.m b b) := CR.pcan (a := CR.n (CR.m s (CR.m b b))) (by rw [CR.pC, h, CR.pC, CR.pN])
  have hb : b = CR.o := by
    by_cases hb : b = CR.o
    · exact hb
    · exfalso
      apply hs (CR.m a (inv b))
      rw [sq2m, e, CR.mA, sq2m', F.inv b hb, CR.m1, CR.m1]
  rw [hb, CR.m0, CR.m0] at e
  exact ⟨(F.zero e).elim id id, hb⟩
/-- Where s is no square, the extension by a root of w^2 = s is a field. -/
theorem quadF {s : X} (hs : ∀ c : X, CR.m c c ≠ s) : @Fld (X × X) (quad s) (fun q => (CR.m q.1 (inv (CR.p (CR.m q.1 q.1) (CR.n (CR.m s (CR.m q.2 q.2))))), CR.m (CR.n q.2) (inv (CR.p (CR.m q.1 q.1) (CR.n (CR.m s (CR.m q.2 q.2))))))) := by
  refine @Fld.mk _ (quad s) _ ?_
  rintro ⟨a, b⟩ h
  have hn : CR.p (CR.m a a) (CR.n (CR.m s (CR.m b b))) ≠ CR.o := fun e => by
    obtain ⟨rfl, rfl⟩ := F.square hs e
    exact h rfl
  have k := F.inv _ hn
  show m2 s (a, b) (CR.m a (inv _), CR.m (CR.n b) (inv _)) = (CR.i, CR.o)
  refine Prod.ext ?_ ?_
  · exact (qin0 s a b _).trans k
  · exact qin1 s a b _
end Fld
end Go.Proofs.Ytbdbmcdcjejffaa
