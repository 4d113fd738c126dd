/- Trees: branches by the reference, of literal depths. -/
import Derived.Test.YtaloefkkllebeaaDoorSk4
set_option linter.unusedVariables false
set_option linter.unusedSimpArgs false
set_option linter.unusedSectionVars false
namespace Go.Sh
/-- A number of the text. -/
structure Li (z : Int) where
  u : Unit
def liParse (z : Int) : TV A → Option (Li z × List Prop)
  | .val false [.v (.int .i64 y)] => if y = z then some (⟨()⟩, []) else none
  | _ => none
instance (z : Int) : Arg A (Li z) where
  G := Unit
  good W g x := True
  tv g x := .val false [.v (.int .i64 z)]
  val g x := .int .i64 z
  is := by
    intro W g x β h
    exact LIs.of_single ⟨rfl, rfl⟩
  parse old m t := liParse z t
  ok := by
    intro c X W0 W β m t x vc v h hvc hm e
    unfold liParse at h
    split at h
    · split at h
      · rename_i y hy
        subst hy
        obtain ⟨e1, _⟩ := LIs.single (e : LIs β _ [v])
        simp at e1
        exact ⟨(), trivial, e1⟩
      · cases h
    · cases h
/-- Rows in a call's own new memory. -/
structure Rw (n : Nat) where
  l : List (R8 n)
def rwParse (n : Nat) (m : Mem A) : TV A → Option (Rw n × List Prop)
  | .val false [.s i off k c] =>
    match nth m i with
    | some (some blk) =>
      match blk.ro, cut blk.cells off (k * n) with
      | false, some l =>
        match bytesL (flat l) with
        | some r => if k ≤ c then some (⟨cutR n (pickN 0 r) k⟩, []) else none
        | none => none
      | _, _ => none
    | _ => none
  | _ => none
instance (n : Nat) : Ret A (Rw n) where
  tv x := .val false [.kn (rsAt x.l) 0 x.l.length n]
  good W b x v := FreshRows W b x.l v
  is := (inferInstance : Ret A (Rz n)).is (x := ⟨_⟩)
  parse m t := rwParse n m t
  ok := by
    intro c W0 W β m t x vc v h hvc hm e
    unfold rwParse at h
    split at h
    · rename_i i off k cp
      split at h
      · rename_i blk hb
        split at h
        · rename_i l hro hl
          split at h
          · rename_i r hr
            split at h
            · rename_i hkc
              simp at h
              obtain ⟨rfl, rfl⟩ := h
              obtain ⟨b, hb1, e2⟩ := LIs.single (e : LIs β _ [v])
              simp at e2
              obtain ⟨b', vs, fz, hb2, hvs, hheap, hfr⟩ := hm.mem' hb hb1
              have : b' = b := by rw [hb1] at hb2; exact (Option.some.inj hb2).symm
              subst this
              obtain ⟨h1, h2⟩ := cut_is hvs hl
              have h3 := bytesL_is (flat_is h1) hr
              have hlen : r.length = k * n := by
                have := congrArg List.length h3
                simp at this
                omega
              refine .inr ⟨⟨b', off, none⟩, cp, by rw [e2, cutR_len], by rw [cutR_len]; exact hkc, fun j hj => ⟨?_, ?_⟩⟩
              · rw [cutR_len] at hj
                rw [add_none, cell_of_row W b' (off + j) _ _ fz hheap, cutR_at _ _ _ _ hj]
                have h4 : ((vs.drop off).take (k * n))[j]? = some (Value.int .u8 ((pickN 0 r j).toNat : Int)) := by
                  rw [h3, List.getElem?_map, pickN_at 0 r j (by omega)]
                  rfl
                rw [List.getElem?_take, if_pos hj, List.getElem?_drop] at h4
                simpa using h4
              · rw [add_none]
                exact (hfr hro).2.resolve_right id
            · cases h
          · cases h
        · cases h
      · cases h
    · cases h
/-- A part of a slice. -/
structure Sg where
  o : Nat
  n : Nat
  c : Nat
def hfS (d : Nat) (s : Sg) : Int := extI false (s.n : Int) ((2 ^ d : Nat) : Int)
def halfS (d : Nat) (s : Sg) : Nat := (hfS d s).toNat
def loS (d : Nat) (s : Sg) : Sg := ⟨s.o, halfS d s - 0, s.c - 0⟩
def hiS (d : Nat) (s : Sg) : Sg := ⟨halfS d s * 32 + s.o, s.n - halfS d s, s.c - halfS d s⟩
def stepS (b : Bool) (d : Nat) (s : Sg) : Sg := match b with | true => hiS d s | false => loS d s
def sibS (b : Bool) (d : Nat) (s : Sg) : Sg := match b with | true => loS d s | false => hiS d s
def segL (l : List (R8 32)) (s : Sg) : List (R8 32) := cutR 32 (fun j => u8of (rsAt l (s.o + j))) s.n
def InS (l : List (R8 32)) (s : Sg) : Prop := s.n ≤ s.c ∧ s.o + s.n * 32 ≤ l.length * 32
theorem hfS_ok (d : Nat) (s : Sg) : 0 ≤ hfS d s ∧ hfS d s ≤ (s.n : Int) ∧ halfS d s = min s.n (2 ^ d) := by
  unfold halfS hfS extI
  simp only [Bool.false_eq_true, if_false]
  generalize (2 : Nat) ^ d = p
  split <;> omega
theorem inS_lo {l : List (R8 32)} {s : Sg} (hs : InS l s) (d : Nat) : InS l (loS d s) := by
  obtain ⟨h1, h2, h3⟩ := hfS_ok d s
  obtain ⟨k1, k2⟩ := hs
  have h4 : halfS d s ≤ s.n := by rw [h3]; exact Nat.min_le_left _ _
  unfold InS loS
  simp only
  omega
theorem inS_hi {l : List (R8 32)} {s : Sg} (hs : InS l s) (d : Nat) : InS l (hiS d s) := by
  obtain ⟨h1, h2, h3⟩ := hfS_ok d s
  obtain ⟨k1, k2⟩ := hs
  have h4 : halfS d s ≤ s.n := by rw [h3]; exact Nat.min_le_left _ _
  unfold InS hiS
  simp only
  omega
theorem inS_step {l : List (R8 32)} {s : Sg} (b : Bool) (d : Nat) (hs : InS l s) : InS l (stepS b d s) := by
  cases b
  · exact inS_lo hs d
  · exact inS_hi hs d
theorem segL_len (l : List (R8 32)) (s : Sg) : (segL l s).length = s.n := cutR_len _ _ _
theorem sg_facts {W : World} {l : List (R8 32)} {g : Spot} (hG : HasRows W l g) (hN : l.length < 1048576) (d : Nat) {s : Sg} (hs : InS l s) :
    (0 ≤ hfS d s ∧ hfS d s ≤ (s.n : Int)) ∧ (0 ≤ hfS d s ∧ hfS d s ≤ (s.c : Int)) ∧ Reads W.cell? g.a (rsAt l) (loS d s).o ((loS d s).n * 32) ∧ Reads W.cell? g.a (rsAt l) (hiS d s).o ((hiS d s).n * 32) ∧ (segL l (loS d s)).length < 1048576 ∧ (segL l (hiS d s)).length < 1048576 := by
  obtain ⟨h1, h2, h3⟩ := hfS_ok d s
  have a1 := inS_lo hs d
  have a2 := inS_hi hs d
  have hc := hs.1
  refine ⟨⟨h1, h2⟩, ⟨h1, by omega⟩, reads_rows (n := 32) hG a1.2, reads_rows (n := 32) hG a2.2, ?_, ?_⟩
  · rw [segL_len]; have := a1.2; omega
  · rw [segL_len]; have := a2.2; omega
inductive Goes {A : Type} [Atom A] (c : Cfg A) (x : Code) : St A → Ex → St A → Prop
  | last {s : St A} {e : Ex} {s' : St A} : e ≠ .normal → Round c x s e s' → Goes c x s e s'
  | step {s s1 : St A} {e : Ex} {s' : St A} : Round c x s .normal s1 → Goes c x s1 e s' → Goes c x s e s'
theorem Goes.sound {A : Type} [Atom A] {c : Cfg A} {x : Code} {s : St A} {e : Ex} {s' : St A} (h : Goes c x s e s') : SoundAt c (.loop x) s e s' := by
  suffices ∃ (N : Nat) (inv : Nat → St A), inv 0 = s ∧ e ≠ .normal ∧ (∀ k, k < N → Round c x (inv k) .normal (inv (k + 1))) ∧ Round c x (inv N) e s' by
    obtain ⟨N, inv, rfl, he, h1, h2⟩ := this
    exact loopAt he h1 h2
  induction h with
  | @last s e s' he hr => exact ⟨0, fun _ => s, rfl, he, fun k hk => absurd hk (Nat.not_lt_zero k), hr⟩
  | @step s s1 e s' hr _ ih =>
    obtain ⟨N, inv, e0, he, h1, h2⟩ := ih
    refine ⟨N + 1, fun k => match k with | 0 => s | k + 1 => inv k, rfl, he, fun k hk => ?_, h2⟩
    cases k with
    | zero => show Round c x s .normal (inv 0); rw [e0]; exact hr
    | succ k => exact h1 k (by omega)
end Go.Sh
namespace Go.Proofs.YtaloefkkllebeaaDoor
open Go Go.Sh
noncomputable def tblRB (T : TrT) : List (Row A) := [rowOf A 45 (fun x : Hs Mk × Rt 32 × Dp 62 × Unit => T x.2.1.l x.2.2.1.n)]
def rbS (a : Addr) (g : Spot) (l : List (R8 32)) (ix : UInt64) (K : Nat) (z : Int) (s : Sg) (rows : List (Nat → UInt8)) : St A :=
  ⟨slots 0 74 [(0, .val true [hsT a]), (1, .val false [.e g.a (rsAt l) s.o s.n s.c]), (2, .val false [.v (.int .i64 (K : Int))]), (3, .val false [.a (.u64 ix)]), (4, .val false [.p 0 0]), (8, .val false [.v (.slice none 0 0)]), (9, .val false [.s 1 0 K K]), (10, .val false [.v (.int .i64 z)])],
    [some ⟨[hsT a], 55, false⟩, some ⟨zer8 (32 * (K - rows.length)) ++ rows.map (fun r => .a (.w8 32 r)), 25, false⟩], 0, [], []⟩
/-- The rows, from the root down. -/
def rbR (T : TrT) (l : List (R8 32)) (ix : UInt64) : Nat → Sg → List (Nat → UInt8) → Sg × List (Nat → UInt8)
  | 0, s, rows => (s, rows)
  | d + 1, s, rows => rbR T l ix d (stepS (bitQ ix d) d s) ((T (segL l (sibS (bitQ ix d) d s)) d).f :: rows)
section
variable (T : TrT) (ht : TblOK Tryd.prog (tblRB T)) {W : World} (a : Addr) (rt : ReadT W.cell? a 0 72) (g : Spot) {l : List (R8 32)} (hG : HasRows W l g) (hN : l.length < 1048576) (ix : UInt64) {c : Cfg A} (e1 : c.P = Tryd.prog) (e2 : c.gl = (fun _ => none)) (e3 : c.old = W.cell?) (e4 : c.ys = [])
include ht rt hG hN e1 e2 e3 e4
theorem rbE_0 (s : Sg) : Round c (loopNo Tryd.f58 6) (rbS a g l ix 0 (-1) s []) (.exit 0) (rbS a g l ix 0 (-1) s []) :=
  Round.of0 ht (saysY []) 6 [] (by kernel_rfl) trivial (by kernel_rfl) (by kernel_rfl) e1 e2 e3 e4
theorem rbG_0 (s : Sg) (hs : InS l s) : Goes c (loopNo Tryd.f58 6) (rbS a g l ix 0 (-1) s []) (.exit 0) (rbS a g l ix 0 (-1) (rbR T l ix 0 s []).1 (rbR T l ix 0 s []).2) :=
  Goes.last (by simp) (rbE_0 T ht a rt g hG hN ix e1 e2 e3 e4 _)
theorem rb_1_0 (s : Sg) (hs : InS l s) (b : Bool) (hb : bitQ ix 0 = b) : Round c (loopNo Tryd.f58 6) (rbS a g l ix 1 0 s []) .normal (rbS a g l ix 1 (-1) (stepS b 0 s) ((T (segL l (sibS b 0 s)) 0).f :: [])) := by
  obtain ⟨f1, f2, f3, f4, f5, f6⟩ := sg_facts hG hN 0 hs
  obtain ⟨o, n, cc⟩ := s
  cases b with
  | true =>
    exact Round.of0 ht (saysY []) 6 [0 ≤ hfS 0 ⟨o, n, cc⟩ ∧ hfS 0 ⟨o, n, cc⟩ ≤ (n : Int), ReadT W.cell? a 0 72, TabsAre, (segL l (loS 0 ⟨o, n, cc⟩)).length < 1048576, Reads W.cell? g.a (rsAt l) (loS 0 ⟨o, n, cc⟩).o ((loS 0 ⟨o, n, cc⟩).n * 32), ∀ j, j < (loS 0 ⟨o, n, cc⟩).n * 32 → isU8 (rsAt l ((loS 0 ⟨o, n, cc⟩).o + j)) = true, (0 : Int) ≤ 0 ∧ (0 : Int) ≤ ((62 : Nat) : Int), 0 ≤ hfS 0 ⟨o, n, cc⟩ ∧ hfS 0 ⟨o, n, cc⟩ ≤ (cc : Int), bitQ ix 0 = true] (by kernel_rfl)
      ⟨f1, rt, tabsAre, f5, f3, fun _ _ => rfl, by decide, f2, hb, trivial⟩ (by kernel_rfl) (by kernel_rfl) e1 e2 e3 e4
  | false =>
    exact Round.of0 ht (saysY [(48, false)]) 6 [0 ≤ hfS 0 ⟨o, n, cc⟩ ∧ hfS 0 ⟨o, n, cc⟩ ≤ (cc : Int), ReadT W.cell? a 0 72, TabsAre, (segL l (hiS 0 ⟨o, n, cc⟩)).length < 1048576, Reads W.cell? g.a (rsAt l) (hiS 0 ⟨o, n, cc⟩).o ((hiS 0 ⟨o, n, cc⟩).n * 32), ∀ j, j < (hiS 0 ⟨o, n, cc⟩).n * 32 → isU8 (rsAt l ((hiS 0 ⟨o, n, cc⟩).o + j)) = true, (0 : Int) ≤ 0 ∧ (0 : Int) ≤ ((62 : Nat) : Int), 0 ≤ hfS 0 ⟨o, n, cc⟩ ∧ hfS 0 ⟨o, n, cc⟩ ≤ (n : Int), bitQ ix 0 = false] (by kernel_rfl)
      ⟨f2, rt, tabsAre, f6, f4, fun _ _ => rfl, by decide, f1, hb, trivial⟩ (by kernel_rfl) (by kernel_rfl) e1 e2 e3 e4
theorem rbE_1 (s : Sg) (r0 : Nat → UInt8) : Round c (loopNo Tryd.f58 6) (rbS a g l ix 1 (-1) s [r0]) (.exit 0) (rbS a g l ix 1 (-1) s [r0]) :=
  Round.of0 ht (saysY []) 6 [] (by kernel_rfl) trivial (by kernel_rfl) (by kernel_rfl) e1 e2 e3 e4
theorem rbG_1 (s : Sg) (hs : InS l s) : Goes c (loopNo Tryd.f58 6) (rbS a g l ix 1 (0) s []) (.exit 0) (rbS a g l ix 1 (-1) (rbR T l ix 1 s []).1 (rbR T l ix 1 s []).2) :=
  Goes.step (rb_1_0 T ht a rt g hG hN ix e1 e2 e3 e4 _ hs _ rfl) (Goes.last (by simp) (rbE_1 T ht a rt g hG hN ix e1 e2 e3 e4 _ _))
theorem rb_2_1 (s : Sg) (hs : InS l s) (b : Bool) (hb : bitQ ix 1 = b) : Round c (loopNo Tryd.f58 6) (rbS a g l ix 2 1 s []) .normal (rbS a g l ix 2 (0) (stepS b 1 s) ((T (segL l (sibS b 1 s)) 1).f :: [])) := by
  obtain ⟨f1, f2, f3, f4, f5, f6⟩ := sg_facts hG hN 1 hs
  obtain ⟨o, n, cc⟩ := s
  cases b with
  | true =>
    exact Round.of0 ht (saysY []) 6 [0 ≤ hfS 1 ⟨o, n, cc⟩ ∧ hfS 1 ⟨o, n, cc⟩ ≤ (n : Int), ReadT W.cell? a 0 72, TabsAre, (segL l (loS 1 ⟨o, n, cc⟩)).length < 1048576, Reads W.cell? g.a (rsAt l) (loS 1 ⟨o, n, cc⟩).o ((loS 1 ⟨o, n, cc⟩).n * 32), ∀ j, j < (loS 1 ⟨o, n, cc⟩).n * 32 → isU8 (rsAt l ((loS 1 ⟨o, n, cc⟩).o + j)) = true, (0 : Int) ≤ 1 ∧ (1 : Int) ≤ ((62 : Nat) : Int), 0 ≤ hfS 1 ⟨o, n, cc⟩ ∧ hfS 1 ⟨o, n, cc⟩ ≤ (cc : Int), bitQ ix 1 = true] (by kernel_rfl)
      ⟨f1, rt, tabsAre, f5, f3, fun _ _ => rfl, by decide, f2, hb, trivial⟩ (by kernel_rfl) (by kernel_rfl) e1 e2 e3 e4
  | false =>
    exact Round.of0 ht (saysY [(48, false)]) 6 [0 ≤ hfS 1 ⟨o, n, cc⟩ ∧ hfS 1 ⟨o, n, cc⟩ ≤ (cc : Int), ReadT W.cell? a 0 72, TabsAre, (segL l (hiS 1 ⟨o, n, cc⟩)).length < 1048576, Reads W.cell? g.a (rsAt l) (hiS 1 ⟨o, n, cc⟩).o ((hiS 1 ⟨o, n, cc⟩).n * 32), ∀ j, j < (hiS 1 ⟨o, n, cc⟩).n * 32 → isU8 (rsAt l ((hiS 1 ⟨o, n, cc⟩).o + j)) = true, (0 : Int) ≤ 1 ∧ (1 : Int) ≤ ((62 : Nat) : Int), 0 ≤ hfS 1 ⟨o, n, cc⟩ ∧ hfS 1 ⟨o, n, cc⟩ ≤ (n : Int), bitQ ix 1 = false] (by kernel_rfl)
      ⟨f2, rt, tabsAre, f6, f4, fun _ _ => rfl, by decide, f1, hb, trivial⟩ (by kernel_rfl) (by kernel_rfl) e1 e2 e3 e4
theorem rb_2_0 (s : Sg) (hs : InS l s) (r0 : Nat → UInt8) (b : Bool) (hb : bitQ ix 0 = b) : Round c (loopNo Tryd.f58 6) (rbS a g l ix 2 0 s [r0]) .normal (rbS a g l ix 2 (-1) (stepS b 0 s) ((T (segL l (sibS b 0 s)) 0).f :: [r0])) := by
  obtain ⟨f1, f2, f3, f4, f5, f6⟩ := sg_facts hG hN 0 hs
  obtain ⟨o, n, cc⟩ := s
  cases b with
  | true =>
    exact Round.of0 ht (saysY []) 6 [0 ≤ hfS 0 ⟨o, n, cc⟩ ∧ hfS 0 ⟨o, n, cc⟩ ≤ (n : Int), ReadT W.cell? a 0 72, TabsAre, (segL l (loS 0 ⟨o, n, cc⟩)).length < 1048576, Reads W.cell? g.a (rsAt l) (loS 0 ⟨o, n, cc⟩).o ((loS 0 ⟨o, n, cc⟩).n * 32), ∀ j, j < (loS 0 ⟨o, n, cc⟩).n * 32 → isU8 (rsAt l ((loS 0 ⟨o, n, cc⟩).o + j)) = true, (0 : Int) ≤ 0 ∧ (0 : Int) ≤ ((62 : Nat) : Int), 0 ≤ hfS 0 ⟨o, n, cc⟩ ∧ hfS 0 ⟨o, n, cc⟩ ≤ (cc : Int), bitQ ix 0 = true] (by kernel_rfl)
      ⟨f1, rt, tabsAre, f5, f3, fun _ _ => rfl, by decide, f2, hb, trivial⟩ (by kernel_rfl) (by kernel_rfl) e1 e2 e3 e4
  | false =>
    exact Round.of0 ht (saysY [(48, false)]) 6 [0 ≤ hfS 0 ⟨o, n, cc⟩ ∧ hfS 0 ⟨o, n, cc⟩ ≤ (cc : Int), ReadT W.cell? a 0 72, TabsAre, (segL l (hiS 0 ⟨o, n, cc⟩)).length < 1048576, Reads W.cell? g.a (rsAt l) (hiS 0 ⟨o, n, cc⟩).o ((hiS 0 ⟨o, n, cc⟩).n * 32), ∀ j, j < (hiS 0 ⟨o, n, cc⟩).n * 32 → isU8 (rsAt l ((hiS 0 ⟨o, n, cc⟩).o + j)) = true, (0 : Int) ≤ 0 ∧ (0 : Int) ≤ ((62 : Nat) : Int), 0 ≤ hfS 0 ⟨o, n, cc⟩ ∧ hfS 0 ⟨o, n, cc⟩ ≤ (n : Int), bitQ ix 0 = false] (by kernel_rfl)
      ⟨f2, rt, tabsAre, f6, f4, fun _ _ => rfl, by decide, f1, hb, trivial⟩ (by kernel_rfl) (by kernel_rfl) e1 e2 e3 e4
theorem rbE_2 (s : Sg) (r0 r1 : Nat → UInt8) : Round c (loopNo Tryd.f58 6) (rbS a g l ix 2 (-1) s [r0, r1]) (.exit 0) (rbS a g l ix 2 (-1) s [r0, r1]) :=
  Round.of0 ht (saysY []) 6 [] (by kernel_rfl) trivial (by kernel_rfl) (by kernel_rfl) e1 e2 e3 e4
theorem rbG_2 (s : Sg) (hs : InS l s) : Goes c (loopNo Tryd.f58 6) (rbS a g l ix 2 (1) s []) (.exit 0) (rbS a g l ix 2 (-1) (rbR T l ix 2 s []).1 (rbR T l ix 2 s []).2) :=
  Goes.step (rb_2_1 T ht a rt g hG hN ix e1 e2 e3 e4 _ hs _ rfl) (Goes.step (rb_2_0 T ht a rt g hG hN ix e1 e2 e3 e4 _ (inS_step _ 1 hs) _ _ rfl) (Goes.last (by simp) (rbE_2 T ht a rt g hG hN ix e1 e2 e3 e4 _ _ _)))
theorem rb_3_2 (s : Sg) (hs : InS l s) (b : Bool) (hb : bitQ ix 2 = b) : Round c (loopNo Tryd.f58 6) (rbS a g l ix 3 2 s []) .normal (rbS a g l ix 3 (1) (stepS b 2 s) ((T (segL l (sibS b 2 s)) 2).f :: [])) := by
  obtain ⟨f1, f2, f3, f4, f5, f6⟩ := sg_facts hG hN 2 hs
  obtain ⟨o, n, cc⟩ := s
  cases b with
  | true =>
    exact Round.of0 ht (saysY []) 6 [0 ≤ hfS 2 ⟨o, n, cc⟩ ∧ hfS 2 ⟨o, n, cc⟩ ≤ (n : Int), ReadT W.cell? a 0 72, TabsAre, (segL l (loS 2 ⟨o, n, cc⟩)).length < 1048576, Reads W.cell? g.a (rsAt l) (loS 2 ⟨o, n, cc⟩).o ((loS 2 ⟨o, n, cc⟩).n * 32), ∀ j, j < (loS 2 ⟨o, n, cc⟩).n * 32 → isU8 (rsAt l ((loS 2 ⟨o, n, cc⟩).o + j)) = true, (0 : Int) ≤ 2 ∧ (2 : Int) ≤ ((62 : Nat) : Int), 0 ≤ hfS 2 ⟨o, n, cc⟩ ∧ hfS 2 ⟨o, n, cc⟩ ≤ (cc : Int), bitQ ix 2 = true] (by kernel_rfl)
      ⟨f1, rt, tabsAre, f5, f3, fun _ _ => rfl, by decide, f2, hb, trivial⟩ (by kernel_rfl) (by kernel_rfl) e1 e2 e3 e4
  | false =>
    exact Round.of0 ht (saysY [(48, false)]) 6 [0 ≤ hfS 2 ⟨o, n, cc⟩ ∧ hfS 2 ⟨o, n, cc⟩ ≤ (cc : Int), ReadT W.cell? a 0 72, TabsAre, (segL l (hiS 2 ⟨o, n, cc⟩)).length < 1048576, Reads W.cell? g.a (rsAt l) (hiS 2 ⟨o, n, cc⟩).o ((hiS 2 ⟨o, n, cc⟩).n * 32), ∀ j, j < (hiS 2 ⟨o, n, cc⟩).n * 32 → isU8 (rsAt l ((hiS 2 ⟨o, n, cc⟩).o + j)) = true, (0 : Int) ≤ 2 ∧ (2 : Int) ≤ ((62 : Nat) : Int), 0 ≤ hfS 2 ⟨o, n, cc⟩ ∧ hfS 2 ⟨o, n, cc⟩ ≤ (n : Int), bitQ ix 2 = false] (by kernel_rfl)
      ⟨f2, rt, tabsAre, f6, f4, fun _ _ => rfl, by decide, f1, hb, trivial⟩ (by kernel_rfl) (by kernel_rfl) e1 e2 e3 e4
theorem rb_3_1 (s : Sg) (hs : InS l s) (r0 : Nat → UInt8) (b : Bool) (hb : bitQ ix 1 = b) : Round c (loopNo Tryd.f58 6) (rbS a g l ix 3 1 s [r0]) .normal (rbS a g l ix 3 (0) (stepS b 1 s) ((T (segL l (sibS b 1 s)) 1).f :: [r0])) := by
  obtain ⟨f1, f2, f3, f4, f5, f6⟩ := sg_facts hG hN 1 hs
  obtain ⟨o, n, cc⟩ := s
  cases b with
  | true =>
    exact Round.of0 ht (saysY []) 6 [0 ≤ hfS 1 ⟨o, n, cc⟩ ∧ hfS 1 ⟨o, n, cc⟩ ≤ (n : Int), ReadT W.cell? a 0 72, TabsAre, (segL l (loS 1 ⟨o, n, cc⟩)).length < 1048576, Reads W.cell? g.a (rsAt l) (loS 1 ⟨o, n, cc⟩).o ((loS 1 ⟨o, n, cc⟩).n * 32), ∀ j, j < (loS 1 ⟨o, n, cc⟩).n * 32 → isU8 (rsAt l ((loS 1 ⟨o, n, cc⟩).o + j)) = true, (0 : Int) ≤ 1 ∧ (1 : Int) ≤ ((62 : Nat) : Int), 0 ≤ hfS 1 ⟨o, n, cc⟩ ∧ hfS 1 ⟨o, n, cc⟩ ≤ (cc : Int), bitQ ix 1 = true] (by kernel_rfl)
      ⟨f1, rt, tabsAre, f5, f3, fun _ _ => rfl, by decide, f2, hb, trivial⟩ (by kernel_rfl) (by kernel_rfl) e1 e2 e3 e4
  | false =>
    exact Round.of0 ht (saysY [(48, false)]) 6 [0 ≤ hfS 1 ⟨o, n, cc⟩ ∧ hfS 1 ⟨o, n, cc⟩ ≤ (cc : Int), ReadT W.cell? a 0 72, TabsAre, (segL l (hiS 1 ⟨o, n, cc⟩)).length < 1048576, Reads W.cell? g.a (rsAt l) (hiS 1 ⟨o, n, cc⟩).o ((hiS 1 ⟨o, n, cc⟩).n * 32), ∀ j, j < (hiS 1 ⟨o, n, cc⟩).n * 32 → isU8 (rsAt l ((hiS 1 ⟨o, n, cc⟩).o + j)) = true, (0 : Int) ≤ 1 ∧ (1 : Int) ≤ ((62 : Nat) : Int), 0 ≤ hfS 1 ⟨o, n, cc⟩ ∧ hfS 1 ⟨o, n, cc⟩ ≤ (n : Int), bitQ ix 1 = false] (by kernel_rfl)
      ⟨f2, rt, tabsAre, f6, f4, fun _ _ => rfl, by decide, f1, hb, trivial⟩ (by kernel_rfl) (by kernel_rfl) e1 e2 e3 e4
theorem rb_3_0 (s : Sg) (hs : InS l s) (r0 r1 : Nat → UInt8) (b : Bool) (hb : bitQ ix 0 = b) : Round c (loopNo Tryd.f58 6) (rbS a g l ix 3 0 s [r0, r1]) .normal (rbS a g l ix 3 (-1) (stepS b 0 s) ((T (segL l (sibS b 0 s)) 0).f :: [r0, r1])) := by
  obtain ⟨f1, f2, f3, f4, f5, f6⟩ := sg_facts hG hN 0 hs
  obtain ⟨o, n, cc⟩ := s
  cases b with
  | true =>
    exact Round.of0 ht (saysY []) 6 [0 ≤ hfS 0 ⟨o, n, cc⟩ ∧ hfS 0 ⟨o, n, cc⟩ ≤ (n : Int), ReadT W.cell? a 0 72, TabsAre, (segL l (loS 0 ⟨o, n, cc⟩)).length < 1048576, Reads W.cell? g.a (rsAt l) (loS 0 ⟨o, n, cc⟩).o ((loS 0 ⟨o, n, cc⟩).n * 32), ∀ j, j < (loS 0 ⟨o, n, cc⟩).n * 32 → isU8 (rsAt l ((loS 0 ⟨o, n, cc⟩).o + j)) = true, (0 : Int) ≤ 0 ∧ (0 : Int) ≤ ((62 : Nat) : Int), 0 ≤ hfS 0 ⟨o, n, cc⟩ ∧ hfS 0 ⟨o, n, cc⟩ ≤ (cc : Int), bitQ ix 0 = true] (by kernel_rfl)
      ⟨f1, rt, tabsAre, f5, f3, fun _ _ => rfl, by decide, f2, hb, trivial⟩ (by kernel_rfl) (by kernel_rfl) e1 e2 e3 e4
  | false =>
    exact Round.of0 ht (saysY [(48, false)]) 6 [0 ≤ hfS 0 ⟨o, n, cc⟩ ∧ hfS 0 ⟨o, n, cc⟩ ≤ (cc : Int), ReadT W.cell? a 0 72, TabsAre, (segL l (hiS 0 ⟨o, n, cc⟩)).length < 1048576, Reads W.cell? g.a (rsAt l) (hiS 0 ⟨o, n, cc⟩).o ((hiS 0 ⟨o, n, cc⟩).n * 32), ∀ j, j < (hiS 0 ⟨o, n, cc⟩).n * 32 → isU8 (rsAt l ((hiS 0 ⟨o, n, cc⟩).o + j)) = true, (0 : Int) ≤ 0 ∧ (0 : Int) ≤ ((62 : Nat) : Int), 0 ≤ hfS 0 ⟨o, n, cc⟩ ∧ hfS 0 ⟨o, n, cc⟩ ≤ (n : Int), bitQ ix 0 = false] (by kernel_rfl)
      ⟨f2, rt, tabsAre, f6, f4, fun _ _ => rfl, by decide, f1, hb, trivial⟩ (by kernel_rfl) (by kernel_rfl) e1 e2 e3 e4
theorem rbE_3 (s : Sg) (r0 r1 r2 : Nat → UInt8) : Round c (loopNo Tryd.f58 6) (rbS a g l ix 3 (-1) s [r0, r1, r2]) (.exit 0) (rbS a g l ix 3 (-1) s [r0, r1, r2]) :=
  Round.of0 ht (saysY []) 6 [] (by kernel_rfl) trivial (by kernel_rfl) (by kernel_rfl) e1 e2 e3 e4
theorem rbG_3 (s : Sg) (hs : InS l s) : Goes c (loopNo Tryd.f58 6) (rbS a g l ix 3 (2) s []) (.exit 0) (rbS a g l ix 3 (-1) (rbR T l ix 3 s []).1 (rbR T l ix 3 s []).2) :=
  Goes.step (rb_3_2 T ht a rt g hG hN ix e1 e2 e3 e4 _ hs _ rfl) (Goes.step (rb_3_1 T ht a rt g hG hN ix e1 e2 e3 e4 _ (inS_step _ 2 hs) _ _ rfl) (Goes.step (rb_3_0 T ht a rt g hG hN ix e1 e2 e3 e4 _ (inS_step _ 1 (inS_step _ 2 hs)) _ _ _ rfl) (Goes.last (by simp) (rbE_3 T ht a rt g hG hN ix e1 e2 e3 e4 _ _ _ _))))
theorem rb_4_3 (s : Sg) (hs : InS l s) (b : Bool) (hb : bitQ ix 3 = b) : Round c (loopNo Tryd.f58 6) (rbS a g l ix 4 3 s []) .normal (rbS a g l ix 4 (2) (stepS b 3 s) ((T (segL l (sibS b 3 s)) 3).f :: [])) := by
  obtain ⟨f1, f2, f3, f4, f5, f6⟩ := sg_facts hG hN 3 hs
  obtain ⟨o, n, cc⟩ := s
  cases b with
  | true =>
    exact Round.of0 ht (saysY []) 6 [0 ≤ hfS 3 ⟨o, n, cc⟩ ∧ hfS 3 ⟨o, n, cc⟩ ≤ (n : Int), ReadT W.cell? a 0 72, TabsAre, (segL l (loS 3 ⟨o, n, cc⟩)).length < 1048576, Reads W.cell? g.a (rsAt l) (loS 3 ⟨o, n, cc⟩).o ((loS 3 ⟨o, n, cc⟩).n * 32), ∀ j, j < (loS 3 ⟨o, n, cc⟩).n * 32 → isU8 (rsAt l ((loS 3 ⟨o, n, cc⟩).o + j)) = true, (0 : Int) ≤ 3 ∧ (3 : Int) ≤ ((62 : Nat) : Int), 0 ≤ hfS 3 ⟨o, n, cc⟩ ∧ hfS 3 ⟨o, n, cc⟩ ≤ (cc : Int), bitQ ix 3 = true] (by kernel_rfl)
      ⟨f1, rt, tabsAre, f5, f3, fun _ _ => rfl, by decide, f2, hb, trivial⟩ (by kernel_rfl) (by kernel_rfl) e1 e2 e3 e4
  | false =>
    exact Round.of0 ht (saysY [(48, false)]) 6 [0 ≤ hfS 3 ⟨o, n, cc⟩ ∧ hfS 3 ⟨o, n, cc⟩ ≤ (cc : Int), ReadT W.cell? a 0 72, TabsAre, (segL l (hiS 3 ⟨o, n, cc⟩)).length < 1048576, Reads W.cell? g.a (rsAt l) (hiS 3 ⟨o, n, cc⟩).o ((hiS 3 ⟨o, n, cc⟩).n * 32), ∀ j, j < (hiS 3 ⟨o, n, cc⟩).n * 32 → isU8 (rsAt l ((hiS 3 ⟨o, n, cc⟩).o + j)) = true, (0 : Int) ≤ 3 ∧ (3 : Int) ≤ ((62 : Nat) : Int), 0 ≤ hfS 3 ⟨o, n, cc⟩ ∧ hfS 3 ⟨o, n, cc⟩ ≤ (n : Int), bitQ ix 3 = false] (by kernel_rfl)
      ⟨f2, rt, tabsAre, f6, f4, fun _ _ => rfl, by decide, f1, hb, trivial⟩ (by kernel_rfl) (by kernel_rfl) e1 e2 e3 e4
theorem rb_4_2 (s : Sg) (hs : InS l s) (r0 : Nat → UInt8) (b : Bool) (hb : bitQ ix 2 = b) : Round c (loopNo Tryd.f58 6) (rbS a g l ix 4 2 s [r0]) .normal (rbS a g l ix 4 (1) (stepS b 2 s) ((T (segL l (sibS b 2 s)) 2).f :: [r0])) := by
  obtain ⟨f1, f2, f3, f4, f5, f6⟩ := sg_facts hG hN 2 hs
  obtain ⟨o, n, cc⟩ := s
  cases b with
  | true =>
    exact Round.of0 ht (saysY []) 6 [0 ≤ hfS 2 ⟨o, n, cc⟩ ∧ hfS 2 ⟨o, n, cc⟩ ≤ (n : Int), ReadT W.cell? a 0 72, TabsAre, (segL l (loS 2 ⟨o, n, cc⟩)).length < 1048576, Reads W.cell? g.a (rsAt l) (loS 2 ⟨o, n, cc⟩).o ((loS 2 ⟨o, n, cc⟩).n * 32), ∀ j, j < (loS 2 ⟨o, n, cc⟩).n * 32 → isU8 (rsAt l ((loS 2 ⟨o, n, cc⟩).o + j)) = true, (0 : Int) ≤ 2 ∧ (2 : Int) ≤ ((62 : Nat) : Int), 0 ≤ hfS 2 ⟨o, n, cc⟩ ∧ hfS 2 ⟨o, n, cc⟩ ≤ (cc : Int), bitQ ix 2 = true] (by kernel_rfl)
      ⟨f1, rt, tabsAre, f5, f3, fun _ _ => rfl, by decide, f2, hb, trivial⟩ (by kernel_rfl) (by kernel_rfl) e1 e2 e3 e4
  | false =>
    exact Round.of0 ht (saysY [(48, false)]) 6 [0 ≤ hfS 2 ⟨o, n, cc⟩ ∧ hfS 2 ⟨o, n, cc⟩ ≤ (cc : Int), ReadT W.cell? a 0 72, TabsAre, (segL l (hiS 2 ⟨o, n, cc⟩)).length < 1048576, Reads W.cell? g.a (rsAt l) (hiS 2 ⟨o, n, cc⟩).o ((hiS 2 ⟨o, n, cc⟩).n * 32), ∀ j, j < (hiS 2 ⟨o, n, cc⟩).n * 32 → isU8 (rsAt l ((hiS 2 ⟨o, n, cc⟩).o + j)) = true, (0 : Int) ≤ 2 ∧ (2 : Int) ≤ ((62 : Nat) : Int), 0 ≤ hfS 2 ⟨o, n, cc⟩ ∧ hfS 2 ⟨o, n, cc⟩ ≤ (n : Int), bitQ ix 2 = false] (by kernel_rfl)
      ⟨f2, rt, tabsAre, f6, f4, fun _ _ => rfl, by decide, f1, hb, trivial⟩ (by kernel_rfl) (by kernel_rfl) e1 e2 e3 e4
theorem rb_4_1 (s : Sg) (hs : InS l s) (r0 r1 : Nat → UInt8) (b : Bool) (hb : bitQ ix 1 = b) : Round c (loopNo Tryd.f58 6) (rbS a g l ix 4 1 s [r0, r1]) .normal (rbS a g l ix 4 (0) (stepS b 1 s) ((T (segL l (sibS b 1 s)) 1).f :: [r0, r1])) := by
  obtain ⟨f1, f2, f3, f4, f5, f6⟩ := sg_facts hG hN 1 hs
  obtain ⟨o, n, cc⟩ := s
  cases b with
  | true =>
    exact Round.of0 ht (saysY []) 6 [0 ≤ hfS 1 ⟨o, n, cc⟩ ∧ hfS 1 ⟨o, n, cc⟩ ≤ (n : Int), ReadT W.cell? a 0 72, TabsAre, (segL l (loS 1 ⟨o, n, cc⟩)).length < 1048576, Reads W.cell? g.a (rsAt l) (loS 1 ⟨o, n, cc⟩).o ((loS 1 ⟨o, n, cc⟩).n * 32), ∀ j, j < (loS 1 ⟨o, n, cc⟩).n * 32 → isU8 (rsAt l ((loS 1 ⟨o, n, cc⟩).o + j)) = true, (0 : Int) ≤ 1 ∧ (1 : Int) ≤ ((62 : Nat) : Int), 0 ≤ hfS 1 ⟨o, n, cc⟩ ∧ hfS 1 ⟨o, n, cc⟩ ≤ (cc : Int), bitQ ix 1 = true] (by kernel_rfl)
      ⟨f1, rt, tabsAre, f5, f3, fun _ _ => rfl, by decide, f2, hb, trivial⟩ (by kernel_rfl) (by kernel_rfl) e1 e2 e3 e4
  | false =>
    exact Round.of0 ht (saysY [(48, false)]) 6 [0 ≤ hfS 1 ⟨o, n, cc⟩ ∧ hfS 1 ⟨o, n, cc⟩ ≤ (cc : Int), ReadT W.cell? a 0 72, TabsAre, (segL l (hiS 1 ⟨o, n, cc⟩)).length < 1048576, Reads W.cell? g.a (rsAt l) (hiS 1 ⟨o, n, cc⟩).o ((hiS 1 ⟨o, n, cc⟩).n * 32), ∀ j, j < (hiS 1 ⟨o, n, cc⟩).n * 32 → isU8 (rsAt l ((hiS 1 ⟨o, n, cc⟩).o + j)) = true, (0 : Int) ≤ 1 ∧ (1 : Int) ≤ ((62 : Nat) : Int), 0 ≤ hfS 1 ⟨o, n, cc⟩ ∧ hfS 1 ⟨o, n, cc⟩ ≤ (n : Int), bitQ ix 1 = false] (by kernel_rfl)
      ⟨f2, rt, tabsAre, f6, f4, fun _ _ => rfl, by decide, f1, hb, trivial⟩ (by kernel_rfl) (by kernel_rfl) e1 e2 e3 e4
theorem rb_4_0 (s : Sg) (hs : InS l s) (r0 r1 r2 : Nat → UInt8) (b : Bool) (hb : bitQ ix 0 = b) : Round c (loopNo Tryd.f58 6) (rbS a g l ix 4 0 s [r0, r1, r2]) .normal (rbS a g l ix 4 (-1) (stepS b 0 s) ((T (segL l (sibS b 0 s)) 0).f :: [r0, r1, r2])) := by
  obtain ⟨f1, f2, f3, f4, f5, f6⟩ := sg_facts hG hN 0 hs
  obtain ⟨o, n, cc⟩ := s
  cases b with
  | true =>
    exact Round.of0 ht (saysY []) 6 [0 ≤ hfS 0 ⟨o, n, cc⟩ ∧ hfS 0 ⟨o, n, cc⟩ ≤ (n : Int), ReadT W.cell? a 0 72, TabsAre, (segL l (loS 0 ⟨o, n, cc⟩)).length < 1048576, Reads W.cell? g.a (rsAt l) (loS 0 ⟨o, n, cc⟩).o ((loS 0 ⟨o, n, cc⟩).n * 32), ∀ j, j < (loS 0 ⟨o, n, cc⟩).n * 32 → isU8 (rsAt l ((loS 0 ⟨o, n, cc⟩).o + j)) = true, (0 : Int) ≤ 0 ∧ (0 : Int) ≤ ((62 : Nat) : Int), 0 ≤ hfS 0 ⟨o, n, cc⟩ ∧ hfS 0 ⟨o, n, cc⟩ ≤ (cc : Int), bitQ ix 0 = true] (by kernel_rfl)
      ⟨f1, rt, tabsAre, f5, f3, fun _ _ => rfl, by decide, f2, hb, trivial⟩ (by kernel_rfl) (by kernel_rfl) e1 e2 e3 e4
  | false =>
    exact Round.of0 ht (saysY [(48, false)]) 6 [0 ≤ hfS 0 ⟨o, n, cc⟩ ∧ hfS 0 ⟨o, n, cc⟩ ≤ (cc : Int), ReadT W.cell? a 0 72, TabsAre, (segL l (hiS 0 ⟨o, n, cc⟩)).length < 1048576, Reads W.cell? g.a (rsAt l) (hiS 0 ⟨o, n, cc⟩).o ((hiS 0 ⟨o, n, cc⟩).n * 32), ∀ j, j < (hiS 0 ⟨o, n, cc⟩).n * 32 → isU8 (rsAt l ((hiS 0 ⟨o, n, cc⟩).o + j)) = true, (0 : Int) ≤ 0 ∧ (0 : Int) ≤ ((62 : Nat) : Int), 0 ≤ hfS 0 ⟨o, n, cc⟩ ∧ hfS 0 ⟨o, n, cc⟩ ≤ (n : Int), bitQ ix 0 = false] (by kernel_rfl)
      ⟨f2, rt, tabsAre, f6, f4, fun _ _ => rfl, by decide, f1, hb, trivial⟩ (by kernel_rfl) (by kernel_rfl) e1 e2 e3 e4
theorem rbE_4 (s : Sg) (r0 r1 r2 r3 : Nat → UInt8) : Round c (loopNo Tryd.f58 6) (rbS a g l ix 4 (-1) s [r0, r1, r2, r3]) (.exit 0) (rbS a g l ix 4 (-1) s [r0, r1, r2, r3]) :=
  Round.of0 ht (saysY []) 6 [] (by kernel_rfl) trivial (by kernel_rfl) (by kernel_rfl) e1 e2 e3 e4
theorem rbG_4 (s : Sg) (hs : InS l s) : Goes c (loopNo Tryd.f58 6) (rbS a g l ix 4 (3) s []) (.exit 0) (rbS a g l ix 4 (-1) (rbR T l ix 4 s []).1 (rbR T l ix 4 s []).2) :=
  Goes.step (rb_4_3 T ht a rt g hG hN ix e1 e2 e3 e4 _ hs _ rfl) (Goes.step (rb_4_2 T ht a rt g hG hN ix e1 e2 e3 e4 _ (inS_step _ 3 hs) _ _ rfl) (Goes.step (rb_4_1 T ht a rt g hG hN ix e1 e2 e3 e4 _ (inS_step _ 2 (inS_step _ 3 hs)) _ _ _ rfl) (Goes.step (rb_4_0 T ht a rt g hG hN ix e1 e2 e3 e4 _ (inS_step _ 1 (inS_step _ 2 (inS_step _ 3 hs))) _ _ _ _ rfl) (Goes.last (by simp) (rbE_4 T ht a rt g hG hN ix e1 e2 e3 e4 _ _ _ _ _)))))
theorem rb_5_4 (s : Sg) (hs : InS l s) (b : Bool) (hb : bitQ ix 4 = b) : Round c (loopNo Tryd.f58 6) (rbS a g l ix 5 4 s []) .normal (rbS a g l ix 5 (3) (stepS b 4 s) ((T (segL l (sibS b 4 s)) 4).f :: [])) := by
  obtain ⟨f1, f2, f3, f4, f5, f6⟩ := sg_facts hG hN 4 hs
  obtain ⟨o, n, cc⟩ := s
  cases b with
  | true =>
    exact Round.of0 ht (saysY []) 6 [0 ≤ hfS 4 ⟨o, n, cc⟩ ∧ hfS 4 ⟨o, n, cc⟩ ≤ (n : Int), ReadT W.cell? a 0 72, TabsAre, (segL l (loS 4 ⟨o, n, cc⟩)).length < 1048576, Reads W.cell? g.a (rsAt l) (loS 4 ⟨o, n, cc⟩).o ((loS 4 ⟨o, n, cc⟩).n * 32), ∀ j, j < (loS 4 ⟨o, n, cc⟩).n * 32 → isU8 (rsAt l ((loS 4 ⟨o, n, cc⟩).o + j)) = true, (0 : Int) ≤ 4 ∧ (4 : Int) ≤ ((62 : Nat) : Int), 0 ≤ hfS 4 ⟨o, n, cc⟩ ∧ hfS 4 ⟨o, n, cc⟩ ≤ (cc : Int), bitQ ix 4 = true] (by kernel_rfl)
      ⟨f1, rt, tabsAre, f5, f3, fun _ _ => rfl, by decide, f2, hb, trivial⟩ (by kernel_rfl) (by kernel_rfl) e1 e2 e3 e4
  | false =>
    exact Round.of0 ht (saysY [(48, false)]) 6 [0 ≤ hfS 4 ⟨o, n, cc⟩ ∧ hfS 4 ⟨o, n, cc⟩ ≤ (cc : Int), ReadT W.cell? a 0 72, TabsAre, (segL l (hiS 4 ⟨o, n, cc⟩)).length < 1048576, Reads W.cell? g.a (rsAt l) (hiS 4 ⟨o, n, cc⟩).o ((hiS 4 ⟨o, n, cc⟩).n * 32), ∀ j, j < (hiS 4 ⟨o, n, cc⟩).n * 32 → isU8 (rsAt l ((hiS 4 ⟨o, n, cc⟩).o + j)) = true, (0 : Int) ≤ 4 ∧ (4 : Int) ≤ ((62 : Nat) : Int), 0 ≤ hfS 4 ⟨o, n, cc⟩ ∧ hfS 4 ⟨o, n, cc⟩ ≤ (n : Int), bitQ ix 4 = false] (by kernel_rfl)
      ⟨f2, rt, tabsAre, f6, f4, fun _ _ => rfl, by decide, f1, hb, trivial⟩ (by kernel_rfl) (by kernel_rfl) e1 e2 e3 e4
theorem rb_5_3 (s : Sg) (hs : InS l s) (r0 : Nat → UInt8) (b : Bool) (hb : bitQ ix 3 = b) : Round c (loopNo Tryd.f58 6) (rbS a g l ix 5 3 s [r0]) .normal (rbS a g l ix 5 (2) (stepS b 3 s) ((T (segL l (sibS b 3 s)) 3).f :: [r0])) := by
  obtain ⟨f1, f2, f3, f4, f5, f6⟩ := sg_facts hG hN 3 hs
  obtain ⟨o, n, cc⟩ := s
  cases b with
  | true =>
    exact Round.of0 ht (saysY []) 6 [0 ≤ hfS 3 ⟨o, n, cc⟩ ∧ hfS 3 ⟨o, n, cc⟩ ≤ (n : Int), ReadT W.cell? a 0 72, TabsAre, (segL l (loS 3 ⟨o, n, cc⟩)).length < 1048576, Reads W.cell? g.a (rsAt l) (loS 3 ⟨o, n, cc⟩).o ((loS 3 ⟨o, n, cc⟩).n * 32), ∀ j, j < (loS 3 ⟨o, n, cc⟩).n * 32 → isU8 (rsAt l ((loS 3 ⟨o, n, cc⟩).o + j)) = true, (0 : Int) ≤ 3 ∧ (3 : Int) ≤ ((62 : Nat) : Int), 0 ≤ hfS 3 ⟨o, n, cc⟩ ∧ hfS 3 ⟨o, n, cc⟩ ≤ (cc : Int), bitQ ix 3 = true] (by kernel_rfl)
      ⟨f1, rt, tabsAre, f5, f3, fun _ _ => rfl, by decide, f2, hb, trivial⟩ (by kernel_rfl) (by kernel_rfl) e1 e2 e3 e4
  | false =>
    exact Round.of0 ht (saysY [(48, false)]) 6 [0 ≤ hfS 3 ⟨o, n, cc⟩ ∧ hfS 3 ⟨o, n, cc⟩ ≤ (cc : Int), ReadT W.cell? a 0 72, TabsAre, (segL l (hiS 3 ⟨o, n, cc⟩)).length < 1048576, Reads W.cell? g.a (rsAt l) (hiS 3 ⟨o, n, cc⟩).o ((hiS 3 ⟨o, n, cc⟩).n * 32), ∀ j, j < (hiS 3 ⟨o, n, cc⟩).n * 32 → isU8 (rsAt l ((hiS 3 ⟨o, n, cc⟩).o + j)) = true, (0 : Int) ≤ 3 ∧ (3 : Int) ≤ ((62 : Nat) : Int), 0 ≤ hfS 3 ⟨o, n, cc⟩ ∧ hfS 3 ⟨o, n, cc⟩ ≤ (n : Int), bitQ ix 3 = false] (by kernel_rfl)
      ⟨f2, rt, tabsAre, f6, f4, fun _ _ => rfl, by decide, f1, hb, trivial⟩ (by kernel_rfl) (by kernel_rfl) e1 e2 e3 e4
theorem rb_5_2 (s : Sg) (hs : InS l s) (r0 r1 : Nat → UInt8) (b : Bool) (hb : bitQ ix 2 = b) : Round c (loopNo Tryd.f58 6) (rbS a g l ix 5 2 s [r0, r1]) .normal (rbS a g l ix 5 (1) (stepS b 2 s) ((T (segL l (sibS b 2 s)) 2).f :: [r0, r1])) := by
  obtain ⟨f1, f2, f3, f4, f5, f6⟩ := sg_facts hG hN 2 hs
  obtain ⟨o, n, cc⟩ := s
  cases b with
  | true =>
    exact Round.of0 ht (saysY []) 6 [0 ≤ hfS 2 ⟨o, n, cc⟩ ∧ hfS 2 ⟨o, n, cc⟩ ≤ (n : Int), ReadT W.cell? a 0 72, TabsAre, (segL l (loS 2 ⟨o, n, cc⟩)).length < 1048576, Reads W.cell? g.a (rsAt l) (loS 2 ⟨o, n, cc⟩).o ((loS 2 ⟨o, n, cc⟩).n * 32), ∀ j, j < (loS 2 ⟨o, n, cc⟩).n * 32 → isU8 (rsAt l ((loS 2 ⟨o, n, cc⟩).o + j)) = true, (0 : Int) ≤ 2 ∧ (2 : Int) ≤ ((62 : Nat) : Int), 0 ≤ hfS 2 ⟨o, n, cc⟩ ∧ hfS 2 ⟨o, n, cc⟩ ≤ (cc : Int), bitQ ix 2 = true] (by kernel_rfl)
      ⟨f1, rt, tabsAre, f5, f3, fun _ _ => rfl, by decide, f2, hb, trivial⟩ (by kernel_rfl) (by kernel_rfl) e1 e2 e3 e4
  | false =>
    exact Round.of0 ht (saysY [(48, false)]) 6 [0 ≤ hfS 2 ⟨o, n, cc⟩ ∧ hfS 2 ⟨o, n, cc⟩ ≤ (cc : Int), ReadT W.cell? a 0 72, TabsAre, (segL l (hiS 2 ⟨o, n, cc⟩)).length < 1048576, Reads W.cell? g.a (rsAt l) (hiS 2 ⟨o, n, cc⟩).o ((hiS 2 ⟨o, n, cc⟩).n * 32), ∀ j, j < (hiS 2 ⟨o, n, cc⟩).n * 32 → isU8 (rsAt l ((hiS 2 ⟨o, n, cc⟩).o + j)) = true, (0 : Int) ≤ 2 ∧ (2 : Int) ≤ ((62 : Nat) : Int), 0 ≤ hfS 2 ⟨o, n, cc⟩ ∧ hfS 2 ⟨o, n, cc⟩ ≤ (n : Int), bitQ ix 2 = false] (by kernel_rfl)
      ⟨f2, rt, tabsAre, f6, f4, fun _ _ => rfl, by decide, f1, hb, trivial⟩ (by kernel_rfl) (by kernel_rfl) e1 e2 e3 e4
theorem rb_5_1 (s : Sg) (hs : InS l s) (r0 r1 r2 : Nat → UInt8) (b : Bool) (hb : bitQ ix 1 = b) : Round c (loopNo Tryd.f58 6) (rbS a g l ix 5 1 s [r0, r1, r2]) .normal (rbS a g l ix 5 (0) (stepS b 1 s) ((T (segL l (sibS b 1 s)) 1).f :: [r0, r1, r2])) := by
  obtain ⟨f1, f2, f3, f4, f5, f6⟩ := sg_facts hG hN 1 hs
  obtain ⟨o, n, cc⟩ := s
  cases b with
  | true =>
    exact Round.of0 ht (saysY []) 6 [0 ≤ hfS 1 ⟨o, n, cc⟩ ∧ hfS 1 ⟨o, n, cc⟩ ≤ (n : Int), ReadT W.cell? a 0 72, TabsAre, (segL l (loS 1 ⟨o, n, cc⟩)).length < 1048576, Reads W.cell? g.a (rsAt l) (loS 1 ⟨o, n, cc⟩).o ((loS 1 ⟨o, n, cc⟩).n * 32), ∀ j, j < (loS 1 ⟨o, n, cc⟩).n * 32 → isU8 (rsAt l ((loS 1 ⟨o, n, cc⟩).o + j)) = true, (0 : Int) ≤ 1 ∧ (1 : Int) ≤ ((62 : Nat) : Int), 0 ≤ hfS 1 ⟨o, n, cc⟩ ∧ hfS 1 ⟨o, n, cc⟩ ≤ (cc : Int), bitQ ix 1 = true] (by kernel_rfl)
      ⟨f1, rt, tabsAre, f5, f3, fun _ _ => rfl, by decide, f2, hb, trivial⟩ (by kernel_rfl) (by kernel_rfl) e1 e2 e3 e4
  | false =>
    exact Round.of0 ht (saysY [(48, false)]) 6 [0 ≤ hfS 1 ⟨o, n, cc⟩ ∧ hfS 1 ⟨o, n, cc⟩ ≤ (cc : Int), ReadT W.cell? a 0 72, TabsAre, (segL l (hiS 1 ⟨o, n, cc⟩)).length < 1048576, Reads W.cell? g.a (rsAt l) (hiS 1 ⟨o, n, cc⟩).o ((hiS 1 ⟨o, n, cc⟩).n * 32), ∀ j, j < (hiS 1 ⟨o, n, cc⟩).n * 32 → isU8 (rsAt l ((hiS 1 ⟨o, n, cc⟩).o + j)) = true, (0 : Int) ≤ 1 ∧ (1 : Int) ≤ ((62 : Nat) : Int), 0 ≤ hfS 1 ⟨o, n, cc⟩ ∧ hfS 1 ⟨o, n, cc⟩ ≤ (n : Int), bitQ ix 1 = false] (by kernel_rfl)
      ⟨f2, rt, tabsAre, f6, f4, fun _ _ => rfl, by decide, f1, hb, trivial⟩ (by kernel_rfl) (by kernel_rfl) e1 e2 e3 e4
theorem rb_5_0 (s : Sg) (hs : InS l s) (r0 r1 r2 r3 : Nat → UInt8) (b : Bool) (hb : bitQ ix 0 = b) : Round c (loopNo Tryd.f58 6) (rbS a g l ix 5 0 s [r0, r1, r2, r3]) .normal (rbS a g l ix 5 (-1) (stepS b 0 s) ((T (segL l (sibS b 0 s)) 0).f :: [r0, r1, r2, r3])) := by
  obtain ⟨f1, f2, f3, f4, f5, f6⟩ := sg_facts hG hN 0 hs
  obtain ⟨o, n, cc⟩ := s
  cases b with
  | true =>
    exact Round.of0 ht (saysY []) 6 [0 ≤ hfS 0 ⟨o, n, cc⟩ ∧ hfS 0 ⟨o, n, cc⟩ ≤ (n : Int), ReadT W.cell? a 0 72, TabsAre, (segL l (loS 0 ⟨o, n, cc⟩)).length < 1048576, Reads W.cell? g.a (rsAt l) (loS 0 ⟨o, n, cc⟩).o ((loS 0 ⟨o, n, cc⟩).n * 32), ∀ j, j < (loS 0 ⟨o, n, cc⟩).n * 32 → isU8 (rsAt l ((loS 0 ⟨o, n, cc⟩).o + j)) = true, (0 : Int) ≤ 0 ∧ (0 : Int) ≤ ((62 : Nat) : Int), 0 ≤ hfS 0 ⟨o, n, cc⟩ ∧ hfS 0 ⟨o, n, cc⟩ ≤ (cc : Int), bitQ ix 0 = true] (by kernel_rfl)
      ⟨f1, rt, tabsAre, f5, f3, fun _ _ => rfl, by decide, f2, hb, trivial⟩ (by kernel_rfl) (by kernel_rfl) e1 e2 e3 e4
  | false =>
    exact Round.of0 ht (saysY [(48, false)]) 6 [0 ≤ hfS 0 ⟨o, n, cc⟩ ∧ hfS 0 ⟨o, n, cc⟩ ≤ (cc : Int), ReadT W.cell? a 0 72, TabsAre, (segL l (hiS 0 ⟨o, n, cc⟩)).length < 1048576, Reads W.cell? g.a (rsAt l) (hiS 0 ⟨o, n, cc⟩).o ((hiS 0 ⟨o, n, cc⟩).n * 32), ∀ j, j < (hiS 0 ⟨o, n, cc⟩).n * 32 → isU8 (rsAt l ((hiS 0 ⟨o, n, cc⟩).o + j)) = true, (0 : Int) ≤ 0 ∧ (0 : Int) ≤ ((62 : Nat) : Int), 0 ≤ hfS 0 ⟨o, n, cc⟩ ∧ hfS 0 ⟨o, n, cc⟩ ≤ (n : Int), bitQ ix 0 = false] (by kernel_rfl)
      ⟨f2, rt, tabsAre, f6, f4, fun _ _ => rfl, by decide, f1, hb, trivial⟩ (by kernel_rfl) (by kernel_rfl) e1 e2 e3 e4
theorem rbE_5 (s : Sg) (r0 r1 r2 r3 r4 : Nat → UInt8) : Round c (loopNo Tryd.f58 6) (rbS a g l ix 5 (-1) s [r0, r1, r2, r3, r4]) (.exit 0) (rbS a g l ix 5 (-1) s [r0, r1, r2, r3, r4]) :=
  Round.of0 ht (saysY []) 6 [] (by kernel_rfl) trivial (by kernel_rfl) (by kernel_rfl) e1 e2 e3 e4
theorem rbG_5 (s : Sg) (hs : InS l s) : Goes c (loopNo Tryd.f58 6) (rbS a g l ix 5 (4) s []) (.exit 0) (rbS a g l ix 5 (-1) (rbR T l ix 5 s []).1 (rbR T l ix 5 s []).2) :=
  Goes.step (rb_5_4 T ht a rt g hG hN ix e1 e2 e3 e4 _ hs _ rfl) (Goes.step (rb_5_3 T ht a rt g hG hN ix e1 e2 e3 e4 _ (inS_step _ 4 hs) _ _ rfl) (Goes.step (rb_5_2 T ht a rt g hG hN ix e1 e2 e3 e4 _ (inS_step _ 3 (inS_step _ 4 hs)) _ _ _ rfl) (Goes.step (rb_5_1 T ht a rt g hG hN ix e1 e2 e3 e4 _ (inS_step _ 2 (inS_step _ 3 (inS_step _ 4 hs))) _ _ _ _ rfl) (Goes.step (rb_5_0 T ht a rt g hG hN ix e1 e2 e3 e4 _ (inS_step _ 1 (inS_step _ 2 (inS_step _ 3 (inS_step _ 4 hs)))) _ _ _ _ _ rfl) (Goes.last (by simp) (rbE_5 T ht a rt g hG hN ix e1 e2 e3 e4 _ _ _ _ _ _))))))
theorem rb_6_5 (s : Sg) (hs : InS l s) (b : Bool) (hb : bitQ ix 5 = b) : Round c (loopNo Tryd.f58 6) (rbS a g l ix 6 5 s []) .normal (rbS a g l ix 6 (4) (stepS b 5 s) ((T (segL l (sibS b 5 s)) 5).f :: [])) := by
  obtain ⟨f1, f2, f3, f4, f5, f6⟩ := sg_facts hG hN 5 hs
  obtain ⟨o, n, cc⟩ := s
  cases b with
  | true =>
    exact Round.of0 ht (saysY []) 6 [0 ≤ hfS 5 ⟨o, n, cc⟩ ∧ hfS 5 ⟨o, n, cc⟩ ≤ (n : Int), ReadT W.cell? a 0 72, TabsAre, (segL l (loS 5 ⟨o, n, cc⟩)).length < 1048576, Reads W.cell? g.a (rsAt l) (loS 5 ⟨o, n, cc⟩).o ((loS 5 ⟨o, n, cc⟩).n * 32), ∀ j, j < (loS 5 ⟨o, n, cc⟩).n * 32 → isU8 (rsAt l ((loS 5 ⟨o, n, cc⟩).o + j)) = true, (0 : Int) ≤ 5 ∧ (5 : Int) ≤ ((62 : Nat) : Int), 0 ≤ hfS 5 ⟨o, n, cc⟩ ∧ hfS 5 ⟨o, n, cc⟩ ≤ (cc : Int), bitQ ix 5 = true] (by kernel_rfl)
      ⟨f1, rt, tabsAre, f5, f3, fun _ _ => rfl, by decide, f2, hb, trivial⟩ (by kernel_rfl) (by kernel_rfl) e1 e2 e3 e4
  | false =>
    exact Round.of0 ht (saysY [(48, false)]) 6 [0 ≤ hfS 5 ⟨o, n, cc⟩ ∧ hfS 5 ⟨o, n, cc⟩ ≤ (cc : Int), ReadT W.cell? a 0 72, TabsAre, (segL l (hiS 5 ⟨o, n, cc⟩)).length < 1048576, Reads W.cell? g.a (rsAt l) (hiS 5 ⟨o, n, cc⟩).o ((hiS 5 ⟨o, n, cc⟩).n * 32), ∀ j, j < (hiS 5 ⟨o, n, cc⟩).n * 32 → isU8 (rsAt l ((hiS 5 ⟨o, n, cc⟩).o + j)) = true, (0 : Int) ≤ 5 ∧ (5 : Int) ≤ ((62 : Nat) : Int), 0 ≤ hfS 5 ⟨o, n, cc⟩ ∧ hfS 5 ⟨o, n, cc⟩ ≤ (n : Int), bitQ ix 5 = false] (by kernel_rfl)
      ⟨f2, rt, tabsAre, f6, f4, fun _ _ => rfl, by decide, f1, hb, trivial⟩ (by kernel_rfl) (by kernel_rfl) e1 e2 e3 e4
theorem rb_6_4 (s : Sg) (hs : InS l s) (r0 : Nat → UInt8) (b : Bool) (hb : bitQ ix 4 = b) : Round c (loopNo Tryd.f58 6) (rbS a g l ix 6 4 s [r0]) .normal (rbS a g l ix 6 (3) (stepS b 4 s) ((T (segL l (sibS b 4 s)) 4).f :: [r0])) := by
  obtain ⟨f1, f2, f3, f4, f5, f6⟩ := sg_facts hG hN 4 hs
  obtain ⟨o, n, cc⟩ := s
  cases b with
  | true =>
    exact Round.of0 ht (saysY []) 6 [0 ≤ hfS 4 ⟨o, n, cc⟩ ∧ hfS 4 ⟨o, n, cc⟩ ≤ (n : Int), ReadT W.cell? a 0 72, TabsAre, (segL l (loS 4 ⟨o, n, cc⟩)).length < 1048576, Reads W.cell? g.a (rsAt l) (loS 4 ⟨o, n, cc⟩).o ((loS 4 ⟨o, n, cc⟩).n * 32), ∀ j, j < (loS 4 ⟨o, n, cc⟩).n * 32 → isU8 (rsAt l ((loS 4 ⟨o, n, cc⟩).o + j)) = true, (0 : Int) ≤ 4 ∧ (4 : Int) ≤ ((62 : Nat) : Int), 0 ≤ hfS 4 ⟨o, n, cc⟩ ∧ hfS 4 ⟨o, n, cc⟩ ≤ (cc : Int), bitQ ix 4 = true] (by kernel_rfl)
      ⟨f1, rt, tabsAre, f5, f3, fun _ _ => rfl, by decide, f2, hb, trivial⟩ (by kernel_rfl) (by kernel_rfl) e1 e2 e3 e4
  | false =>
    exact Round.of0 ht (saysY [(48, false)]) 6 [0 ≤ hfS 4 ⟨o, n, cc⟩ ∧ hfS 4 ⟨o, n, cc⟩ ≤ (cc : Int), ReadT W.cell? a 0 72, TabsAre, (segL l (hiS 4 ⟨o, n, cc⟩)).length < 1048576, Reads W.cell? g.a (rsAt l) (hiS 4 ⟨o, n, cc⟩).o ((hiS 4 ⟨o, n, cc⟩).n * 32), ∀ j, j < (hiS 4 ⟨o, n, cc⟩).n * 32 → isU8 (rsAt l ((hiS 4 ⟨o, n, cc⟩).o + j)) = true, (0 : Int) ≤ 4 ∧ (4 : Int) ≤ ((62 : Nat) : Int), 0 ≤ hfS 4 ⟨o, n, cc⟩ ∧ hfS 4 ⟨o, n, cc⟩ ≤ (n : Int), bitQ ix 4 = false] (by kernel_rfl)
      ⟨f2, rt, tabsAre, f6, f4, fun _ _ => rfl, by decide, f1, hb, trivial⟩ (by kernel_rfl) (by kernel_rfl) e1 e2 e3 e4
theorem rb_6_3 (s : Sg) (hs : InS l s) (r0 r1 : Nat → UInt8) (b : Bool) (hb : bitQ ix 3 = b) : Round c (loopNo Tryd.f58 6) (rbS a g l ix 6 3 s [r0, r1]) .normal (rbS a g l ix 6 (2) (stepS b 3 s) ((T (segL l (sibS b 3 s)) 3).f :: [r0, r1])) := by
  obtain ⟨f1, f2, f3, f4, f5, f6⟩ := sg_facts hG hN 3 hs
  obtain ⟨o, n, cc⟩ := s
  cases b with
  | true =>
    exact Round.of0 ht (saysY []) 6 [0 ≤ hfS 3 ⟨o, n, cc⟩ ∧ hfS 3 ⟨o, n, cc⟩ ≤ (n : Int), ReadT W.cell? a 0 72, TabsAre, (segL l (loS 3 ⟨o, n, cc⟩)).length < 1048576, Reads W.cell? g.a (rsAt l) (loS 3 ⟨o, n, cc⟩).o ((loS 3 ⟨o, n, cc⟩).n * 32), ∀ j, j < (loS 3 ⟨o, n, cc⟩).n * 32 → isU8 (rsAt l ((loS 3 ⟨o, n, cc⟩).o + j)) = true, (0 : Int) ≤ 3 ∧ (3 : Int) ≤ ((62 : Nat) : Int), 0 ≤ hfS 3 ⟨o, n, cc⟩ ∧ hfS 3 ⟨o, n, cc⟩ ≤ (cc : Int), bitQ ix 3 = true] (by kernel_rfl)
      ⟨f1, rt, tabsAre, f5, f3, fun _ _ => rfl, by decide, f2, hb, trivial⟩ (by kernel_rfl) (by kernel_rfl) e1 e2 e3 e4
  | false =>
    exact Round.of0 ht (saysY [(48, false)]) 6 [0 ≤ hfS 3 ⟨o, n, cc⟩ ∧ hfS 3 ⟨o, n, cc⟩ ≤ (cc : Int), ReadT W.cell? a 0 72, TabsAre, (segL l (hiS 3 ⟨o, n, cc⟩)).length < 1048576, Reads W.cell? g.a (rsAt l) (hiS 3 ⟨o, n, cc⟩).o ((hiS 3 ⟨o, n, cc⟩).n * 32), ∀ j, j < (hiS 3 ⟨o, n, cc⟩).n * 32 → isU8 (rsAt l ((hiS 3 ⟨o, n, cc⟩).o + j)) = true, (0 : Int) ≤ 3 ∧ (3 : Int) ≤ ((62 : Nat) : Int), 0 ≤ hfS 3 ⟨o, n, cc⟩ ∧ hfS 3 ⟨o, n, cc⟩ ≤ (n : Int), bitQ ix 3 = false] (by kernel_rfl)
      ⟨f2, rt, tabsAre, f6, f4, fun _ _ => rfl, by decide, f1, hb, trivial⟩ (by kernel_rfl) (by kernel_rfl) e1 e2 e3 e4
theorem rb_6_2 (s : Sg) (hs : InS l s) (r0 r1 r2 : Nat → UInt8) (b : Bool) (hb : bitQ ix 2 = b) : Round c (loopNo Tryd.f58 6) (rbS a g l ix 6 2 s [r0, r1, r2]) .normal (rbS a g l ix 6 (1) (stepS b 2 s) ((T (segL l (sibS b 2 s)) 2).f :: [r0, r1, r2])) := by
  obtain ⟨f1, f2, f3, f4, f5, f6⟩ := sg_facts hG hN 2 hs
  obtain ⟨o, n, cc⟩ := s
  cases b with
  | true =>
    exact Round.of0 ht (saysY []) 6 [0 ≤ hfS 2 ⟨o, n, cc⟩ ∧ hfS 2 ⟨o, n, cc⟩ ≤ (n : Int), ReadT W.cell? a 0 72, TabsAre, (segL l (loS 2 ⟨o, n, cc⟩)).length < 1048576, Reads W.cell? g.a (rsAt l) (loS 2 ⟨o, n, cc⟩).o ((loS 2 ⟨o, n, cc⟩).n * 32), ∀ j, j < (loS 2 ⟨o, n, cc⟩).n * 32 → isU8 (rsAt l ((loS 2 ⟨o, n, cc⟩).o + j)) = true, (0 : Int) ≤ 2 ∧ (2 : Int) ≤ ((62 : Nat) : Int), 0 ≤ hfS 2 ⟨o, n, cc⟩ ∧ hfS 2 ⟨o, n, cc⟩ ≤ (cc : Int), bitQ ix 2 = true] (by kernel_rfl)
      ⟨f1, rt, tabsAre, f5, f3, fun _ _ => rfl, by decide, f2, hb, trivial⟩ (by kernel_rfl) (by kernel_rfl) e1 e2 e3 e4
  | false =>
    exact Round.of0 ht (saysY [(48, false)]) 6 [0 ≤ hfS 2 ⟨o, n, cc⟩ ∧ hfS 2 ⟨o, n, cc⟩ ≤ (cc : Int), ReadT W.cell? a 0 72, TabsAre, (segL l (hiS 2 ⟨o, n, cc⟩)).length < 1048576, Reads W.cell? g.a (rsAt l) (hiS 2 ⟨o, n, cc⟩).o ((hiS 2 ⟨o, n, cc⟩).n * 32), ∀ j, j < (hiS 2 ⟨o, n, cc⟩).n * 32 → isU8 (rsAt l ((hiS 2 ⟨o, n, cc⟩).o + j)) = true, (0 : Int) ≤ 2 ∧ (2 : Int) ≤ ((62 : Nat) : Int), 0 ≤ hfS 2 ⟨o, n, cc⟩ ∧ hfS 2 ⟨o, n, cc⟩ ≤ (n : Int), bitQ ix 2 = false] (by kernel_rfl)
      ⟨f2, rt, tabsAre, f6, f4, fun _ _ => rfl, by decide, f1, hb, trivial⟩ (by kernel_rfl) (by kernel_rfl) e1 e2 e3 e4
theorem rb_6_1 (s : Sg) (hs : InS l s) (r0 r1 r2 r3 : Nat → UInt8) (b : Bool) (hb : bitQ ix 1 = b) : Round c (loopNo Tryd.f58 6) (rbS a g l ix 6 1 s [r0, r1, r2, r3]) .normal (rbS a g l ix 6 (0) (stepS b 1 s) ((T (segL l (sibS b 1 s)) 1).f :: [r0, r1, r2, r3])) := by
  obtain ⟨f1, f2, f3, f4, f5, f6⟩ := sg_facts hG hN 1 hs
  obtain ⟨o, n, cc⟩ := s
  cases b with
  | true =>
    exact Round.of0 ht (saysY []) 6 [0 ≤ hfS 1 ⟨o, n, cc⟩ ∧ hfS 1 ⟨o, n, cc⟩ ≤ (n : Int), ReadT W.cell? a 0 72, TabsAre, (segL l (loS 1 ⟨o, n, cc⟩)).length < 1048576, Reads W.cell? g.a (rsAt l) (loS 1 ⟨o, n, cc⟩).o ((loS 1 ⟨o, n, cc⟩).n * 32), ∀ j, j < (loS 1 ⟨o, n, cc⟩).n * 32 → isU8 (rsAt l ((loS 1 ⟨o, n, cc⟩).o + j)) = true, (0 : Int) ≤ 1 ∧ (1 : Int) ≤ ((62 : Nat) : Int), 0 ≤ hfS 1 ⟨o, n, cc⟩ ∧ hfS 1 ⟨o, n, cc⟩ ≤ (cc : Int), bitQ ix 1 = true] (by kernel_rfl)
      ⟨f1, rt, tabsAre, f5, f3, fun _ _ => rfl, by decide, f2, hb, trivial⟩ (by kernel_rfl) (by kernel_rfl) e1 e2 e3 e4
  | false =>
    exact Round.of0 ht (saysY [(48, false)]) 6 [0 ≤ hfS 1 ⟨o, n, cc⟩ ∧ hfS 1 ⟨o, n, cc⟩ ≤ (cc : Int), ReadT W.cell? a 0 72, TabsAre, (segL l (hiS 1 ⟨o, n, cc⟩)).length < 1048576, Reads W.cell? g.a (rsAt l) (hiS 1 ⟨o, n, cc⟩).o ((hiS 1 ⟨o, n, cc⟩).n * 32), ∀ j, j < (hiS 1 ⟨o, n, cc⟩).n * 32 → isU8 (rsAt l ((hiS 1 ⟨o, n, cc⟩).o + j)) = true, (0 : Int) ≤ 1 ∧ (1 : Int) ≤ ((62 : Nat) : Int), 0 ≤ hfS 1 ⟨o, n, cc⟩ ∧ hfS 1 ⟨o, n, cc⟩ ≤ (n : Int), bitQ ix 1 = false] (by kernel_rfl)
      ⟨f2, rt, tabsAre, f6, f4, fun _ _ => rfl, by decide, f1, hb, trivial⟩ (by kernel_rfl) (by kernel_rfl) e1 e2 e3 e4
theorem rb_6_0 (s : Sg) (hs : InS l s) (r0 r1 r2 r3 r4 : Nat → UInt8) (b : Bool) (hb : bitQ ix 0 = b) : Round c (loopNo Tryd.f58 6) (rbS a g l ix 6 0 s [r0, r1, r2, r3, r4]) .normal (rbS a g l ix 6 (-1) (stepS b 0 s) ((T (segL l (sibS b 0 s)) 0).f :: [r0, r1, r2, r3, r4])) := by
  obtain ⟨f1, f2, f3, f4, f5, f6⟩ := sg_facts hG hN 0 hs
  obtain ⟨o, n, cc⟩ := s
  cases b with
  | true =>
    exact Round.of0 ht (saysY []) 6 [0 ≤ hfS 0 ⟨o, n, cc⟩ ∧ hfS 0 ⟨o, n, cc⟩ ≤ (n : Int), ReadT W.cell? a 0 72, TabsAre, (segL l (loS 0 ⟨o, n, cc⟩)).length < 1048576, Reads W.cell? g.a (rsAt l) (loS 0 ⟨o, n, cc⟩).o ((loS 0 ⟨o, n, cc⟩).n * 32), ∀ j, j < (loS 0 ⟨o, n, cc⟩).n * 32 → isU8 (rsAt l ((loS 0 ⟨o, n, cc⟩).o + j)) = true, (0 : Int) ≤ 0 ∧ (0 : Int) ≤ ((62 : Nat) : Int), 0 ≤ hfS 0 ⟨o, n, cc⟩ ∧ hfS 0 ⟨o, n, cc⟩ ≤ (cc : Int), bitQ ix 0 = true] (by kernel_rfl)
      ⟨f1, rt, tabsAre, f5, f3, fun _ _ => rfl, by decide, f2, hb, trivial⟩ (by kernel_rfl) (by kernel_rfl) e1 e2 e3 e4
  | false =>
    exact Round.of0 ht (saysY [(48, false)]) 6 [0 ≤ hfS 0 ⟨o, n, cc⟩ ∧ hfS 0 ⟨o, n, cc⟩ ≤ (cc : Int), ReadT W.cell? a 0 72, TabsAre, (segL l (hiS 0 ⟨o, n, cc⟩)).length < 1048576, Reads W.cell? g.a (rsAt l) (hiS 0 ⟨o, n, cc⟩).o ((hiS 0 ⟨o, n, cc⟩).n * 32), ∀ j, j < (hiS 0 ⟨o, n, cc⟩).n * 32 → isU8 (rsAt l ((hiS 0 ⟨o, n, cc⟩).o + j)) = true, (0 : Int) ≤ 0 ∧ (0 : Int) ≤ ((62 : Nat) : Int), 0 ≤ hfS 0 ⟨o, n, cc⟩ ∧ hfS 0 ⟨o, n, cc⟩ ≤ (n : Int), bitQ ix 0 = false] (by kernel_rfl)
      ⟨f2, rt, tabsAre, f6, f4, fun _ _ => rfl, by decide, f1, hb, trivial⟩ (by kernel_rfl) (by kernel_rfl) e1 e2 e3 e4
theorem rbE_6 (s : Sg) (r0 r1 r2 r3 r4 r5 : Nat → UInt8) : Round c (loopNo Tryd.f58 6) (rbS a g l ix 6 (-1) s [r0, r1, r2, r3, r4, r5]) (.exit 0) (rbS a g l ix 6 (-1) s [r0, r1, r2, r3, r4, r5]) :=
  Round.of0 ht (saysY []) 6 [] (by kernel_rfl) trivial (by kernel_rfl) (by kernel_rfl) e1 e2 e3 e4
theorem rbG_6 (s : Sg) (hs : InS l s) : Goes c (loopNo Tryd.f58 6) (rbS a g l ix 6 (5) s []) (.exit 0) (rbS a g l ix 6 (-1) (rbR T l ix 6 s []).1 (rbR T l ix 6 s []).2) :=
  Goes.step (rb_6_5 T ht a rt g hG hN ix e1 e2 e3 e4 _ hs _ rfl) (Goes.step (rb_6_4 T ht a rt g hG hN ix e1 e2 e3 e4 _ (inS_step _ 5 hs) _ _ rfl) (Goes.step (rb_6_3 T ht a rt g hG hN ix e1 e2 e3 e4 _ (inS_step _ 4 (inS_step _ 5 hs)) _ _ _ rfl) (Goes.step (rb_6_2 T ht a rt g hG hN ix e1 e2 e3 e4 _ (inS_step _ 3 (inS_step _ 4 (inS_step _ 5 hs))) _ _ _ _ rfl) (Goes.step (rb_6_1 T ht a rt g hG hN ix e1 e2 e3 e4 _ (inS_step _ 2 (inS_step _ 3 (inS_step _ 4 (inS_step _ 5 hs)))) _ _ _ _ _ rfl) (Goes.step (rb_6_0 T ht a rt g hG hN ix e1 e2 e3 e4 _ (inS_step _ 1 (inS_step _ 2 (inS_step _ 3 (inS_step _ 4 (inS_step _ 5 hs))))) _ _ _ _ _ _ rfl) (Goes.last (by simp) (rbE_6 T ht a rt g hG hN ix e1 e2 e3 e4 _ _ _ _ _ _ _)))))))
theorem rb_7_6 (s : Sg) (hs : InS l s) (b : Bool) (hb : bitQ ix 6 = b) : Round c (loopNo Tryd.f58 6) (rbS a g l ix 7 6 s []) .normal (rbS a g l ix 7 (5) (stepS b 6 s) ((T (segL l (sibS b 6 s)) 6).f :: [])) := by
  obtain ⟨f1, f2, f3, f4, f5, f6⟩ := sg_facts hG hN 6 hs
  obtain ⟨o, n, cc⟩ := s
  cases b with
  | true =>
    exact Round.of0 ht (saysY []) 6 [0 ≤ hfS 6 ⟨o, n, cc⟩ ∧ hfS 6 ⟨o, n, cc⟩ ≤ (n : Int), ReadT W.cell? a 0 72, TabsAre, (segL l (loS 6 ⟨o, n, cc⟩)).length < 1048576, Reads W.cell? g.a (rsAt l) (loS 6 ⟨o, n, cc⟩).o ((loS 6 ⟨o, n, cc⟩).n * 32), ∀ j, j < (loS 6 ⟨o, n, cc⟩).n * 32 → isU8 (rsAt l ((loS 6 ⟨o, n, cc⟩).o + j)) = true, (0 : Int) ≤ 6 ∧ (6 : Int) ≤ ((62 : Nat) : Int), 0 ≤ hfS 6 ⟨o, n, cc⟩ ∧ hfS 6 ⟨o, n, cc⟩ ≤ (cc : Int), bitQ ix 6 = true] (by kernel_rfl)
      ⟨f1, rt, tabsAre, f5, f3, fun _ _ => rfl, by decide, f2, hb, trivial⟩ (by kernel_rfl) (by kernel_rfl) e1 e2 e3 e4
  | false =>
    exact Round.of0 ht (saysY [(48, false)]) 6 [0 ≤ hfS 6 ⟨o, n, cc⟩ ∧ hfS 6 ⟨o, n, cc⟩ ≤ (cc : Int), ReadT W.cell? a 0 72, TabsAre, (segL l (hiS 6 ⟨o, n, cc⟩)).length < 1048576, Reads W.cell? g.a (rsAt l) (hiS 6 ⟨o, n, cc⟩).o ((hiS 6 ⟨o, n, cc⟩).n * 32), ∀ j, j < (hiS 6 ⟨o, n, cc⟩).n * 32 → isU8 (rsAt l ((hiS 6 ⟨o, n, cc⟩).o + j)) = true, (0 : Int) ≤ 6 ∧ (6 : Int) ≤ ((62 : Nat) : Int), 0 ≤ hfS 6 ⟨o, n, cc⟩ ∧ hfS 6 ⟨o, n, cc⟩ ≤ (n : Int), bitQ ix 6 = false] (by kernel_rfl)
      ⟨f2, rt, tabsAre, f6, f4, fun _ _ => rfl, by decide, f1, hb, trivial⟩ (by kernel_rfl) (by kernel_rfl) e1 e2 e3 e4
theorem rb_7_5 (s : Sg) (hs : InS l s) (r0 : Nat → UInt8) (b : Bool) (hb : bitQ ix 5 = b) : Round c (loopNo Tryd.f58 6) (rbS a g l ix 7 5 s [r0]) .normal (rbS a g l ix 7 (4) (stepS b 5 s) ((T (segL l (sibS b 5 s)) 5).f :: [r0])) := by
  obtain ⟨f1, f2, f3, f4, f5, f6⟩ := sg_facts hG hN 5 hs
  obtain ⟨o, n, cc⟩ := s
  cases b with
  | true =>
    exact Round.of0 ht (saysY []) 6 [0 ≤ hfS 5 ⟨o, n, cc⟩ ∧ hfS 5 ⟨o, n, cc⟩ ≤ (n : Int), ReadT W.cell? a 0 72, TabsAre, (segL l (loS 5 ⟨o, n, cc⟩)).length < 1048576, Reads W.cell? g.a (rsAt l) (loS 5 ⟨o, n, cc⟩).o ((loS 5 ⟨o, n, cc⟩).n * 32), ∀ j, j < (loS 5 ⟨o, n, cc⟩).n * 32 → isU8 (rsAt l ((loS 5 ⟨o, n, cc⟩).o + j)) = true, (0 : Int) ≤ 5 ∧ (5 : Int) ≤ ((62 : Nat) : Int), 0 ≤ hfS 5 ⟨o, n, cc⟩ ∧ hfS 5 ⟨o, n, cc⟩ ≤ (cc : Int), bitQ ix 5 = true] (by kernel_rfl)
      ⟨f1, rt, tabsAre, f5, f3, fun _ _ => rfl, by decide, f2, hb, trivial⟩ (by kernel_rfl) (by kernel_rfl) e1 e2 e3 e4
  | false =>
    exact Round.of0 ht (saysY [(48, false)]) 6 [0 ≤ hfS 5 ⟨o, n, cc⟩ ∧ hfS 5 ⟨o, n, cc⟩ ≤ (cc : Int), ReadT W.cell? a 0 72, TabsAre, (segL l (hiS 5 ⟨o, n, cc⟩)).length < 1048576, Reads W.cell? g.a (rsAt l) (hiS 5 ⟨o, n, cc⟩).o ((hiS 5 ⟨o, n, cc⟩).n * 32), ∀ j, j < (hiS 5 ⟨o, n, cc⟩).n * 32 → isU8 (rsAt l ((hiS 5 ⟨o, n, cc⟩).o + j)) = true, (0 : Int) ≤ 5 ∧ (5 : Int) ≤ ((62 : Nat) : Int), 0 ≤ hfS 5 ⟨o, n, cc⟩ ∧ hfS 5 ⟨o, n, cc⟩ ≤ (n : Int), bitQ ix 5 = false] (by kernel_rfl)
      ⟨f2, rt, tabsAre, f6, f4, fun _ _ => rfl, by decide, f1, hb, trivial⟩ (by kernel_rfl) (by kernel_rfl) e1 e2 e3 e4
theorem rb_7_4 (s : Sg) (hs : InS l s) (r0 r1 : Nat → UInt8) (b : Bool) (hb : bitQ ix 4 = b) : Round c (loopNo Tryd.f58 6) (rbS a g l ix 7 4 s [r0, r1]) .normal (rbS a g l ix 7 (3) (stepS b 4 s) ((T (segL l (sibS b 4 s)) 4).f :: [r0, r1])) := by
  obtain ⟨f1, f2, f3, f4, f5, f6⟩ := sg_facts hG hN 4 hs
  obtain ⟨o, n, cc⟩ := s
  cases b with
  | true =>
    exact Round.of0 ht (saysY []) 6 [0 ≤ hfS 4 ⟨o, n, cc⟩ ∧ hfS 4 ⟨o, n, cc⟩ ≤ (n : Int), ReadT W.cell? a 0 72, TabsAre, (segL l (loS 4 ⟨o, n, cc⟩)).length < 1048576, Reads W.cell? g.a (rsAt l) (loS 4 ⟨o, n, cc⟩).o ((loS 4 ⟨o, n, cc⟩).n * 32), ∀ j, j < (loS 4 ⟨o, n, cc⟩).n * 32 → isU8 (rsAt l ((loS 4 ⟨o, n, cc⟩).o + j)) = true, (0 : Int) ≤ 4 ∧ (4 : Int) ≤ ((62 : Nat) : Int), 0 ≤ hfS 4 ⟨o, n, cc⟩ ∧ hfS 4 ⟨o, n, cc⟩ ≤ (cc : Int), bitQ ix 4 = true] (by kernel_rfl)
      ⟨f1, rt, tabsAre, f5, f3, fun _ _ => rfl, by decide, f2, hb, trivial⟩ (by kernel_rfl) (by kernel_rfl) e1 e2 e3 e4
  | false =>
    exact Round.of0 ht (saysY [(48, false)]) 6 [0 ≤ hfS 4 ⟨o, n, cc⟩ ∧ hfS 4 ⟨o, n, cc⟩ ≤ (cc : Int), ReadT W.cell? a 0 72, TabsAre, (segL l (hiS 4 ⟨o, n, cc⟩)).length < 1048576, Reads W.cell? g.a (rsAt l) (hiS 4 ⟨o, n, cc⟩).o ((hiS 4 ⟨o, n, cc⟩).n * 32), ∀ j, j < (hiS 4 ⟨o, n, cc⟩).n * 32 → isU8 (rsAt l ((hiS 4 ⟨o, n, cc⟩).o + j)) = true, (0 : Int) ≤ 4 ∧ (4 : Int) ≤ ((62 : Nat) : Int), 0 ≤ hfS 4 ⟨o, n, cc⟩ ∧ hfS 4 ⟨o, n, cc⟩ ≤ (n : Int), bitQ ix 4 = false] (by kernel_rfl)
      ⟨f2, rt, tabsAre, f6, f4, fun _ _ => rfl, by decide, f1, hb, trivial⟩ (by kernel_rfl) (by kernel_rfl) e1 e2 e3 e4
theorem rb_7_3 (s : Sg) (hs : InS l s) (r0 r1 r2 : Nat → UInt8) (b : Bool) (hb : bitQ ix 3 = b) : Round c (loopNo Tryd.f58 6) (rbS a g l ix 7 3 s [r0, r1, r2]) .normal (rbS a g l ix 7 (2) (stepS b 3 s) ((T (segL l (sibS b 3 s)) 3).f :: [r0, r1, r2])) := by
  obtain ⟨f1, f2, f3, f4, f5, f6⟩ := sg_facts hG hN 3 hs
  obtain ⟨o, n, cc⟩ := s
  cases b with
  | true =>
    exact Round.of0 ht (saysY []) 6 [0 ≤ hfS 3 ⟨o, n, cc⟩ ∧ hfS 3 ⟨o, n, cc⟩ ≤ (n : Int), ReadT W.cell? a 0 72, TabsAre, (segL l (loS 3 ⟨o, n, cc⟩)).length < 1048576, Reads W.cell? g.a (rsAt l) (loS 3 ⟨o, n, cc⟩).o ((loS 3 ⟨o, n, cc⟩).n * 32), ∀ j, j < (loS 3 ⟨o, n, cc⟩).n * 32 → isU8 (rsAt l ((loS 3 ⟨o, n, cc⟩).o + j)) = true, (0 : Int) ≤ 3 ∧ (3 : Int) ≤ ((62 : Nat) : Int), 0 ≤ hfS 3 ⟨o, n, cc⟩ ∧ hfS 3 ⟨o, n, cc⟩ ≤ (cc : Int), bitQ ix 3 = true] (by kernel_rfl)
      ⟨f1, rt, tabsAre, f5, f3, fun _ _ => rfl, by decide, f2, hb, trivial⟩ (by kernel_rfl) (by kernel_rfl) e1 e2 e3 e4
  | false =>
    exact Round.of0 ht (saysY [(48, false)]) 6 [0 ≤ hfS 3 ⟨o, n, cc⟩ ∧ hfS 3 ⟨o, n, cc⟩ ≤ (cc : Int), ReadT W.cell? a 0 72, TabsAre, (segL l (hiS 3 ⟨o, n, cc⟩)).length < 1048576, Reads W.cell? g.a (rsAt l) (hiS 3 ⟨o, n, cc⟩).o ((hiS 3 ⟨o, n, cc⟩).n * 32), ∀ j, j < (hiS 3 ⟨o, n, cc⟩).n * 32 → isU8 (rsAt l ((hiS 3 ⟨o, n, cc⟩).o + j)) = true, (0 : Int) ≤ 3 ∧ (3 : Int) ≤ ((62 : Nat) : Int), 0 ≤ hfS 3 ⟨o, n, cc⟩ ∧ hfS 3 ⟨o, n, cc⟩ ≤ (n : Int), bitQ ix 3 = false] (by kernel_rfl)
      ⟨f2, rt, tabsAre, f6, f4, fun _ _ => rfl, by decide, f1, hb, trivial⟩ (by kernel_rfl) (by kernel_rfl) e1 e2 e3 e4
theorem rb_7_2 (s : Sg) (hs : InS l s) (r0 r1 r2 r3 : Nat → UInt8) (b : Bool) (hb : bitQ ix 2 = b) : Round c (loopNo Tryd.f58 6) (rbS a g l ix 7 2 s [r0, r1, r2, r3]) .normal (rbS a g l ix 7 (1) (stepS b 2 s) ((T (segL l (sibS b 2 s)) 2).f :: [r0, r1, r2, r3])) := by
  obtain ⟨f1, f2, f3, f4, f5, f6⟩ := sg_facts hG hN 2 hs
  obtain ⟨o, n, cc⟩ := s
  cases b with
  | true =>
    exact Round.of0 ht (saysY []) 6 [0 ≤ hfS 2 ⟨o, n, cc⟩ ∧ hfS 2 ⟨o, n, cc⟩ ≤ (n : Int), ReadT W.cell? a 0 72, TabsAre, (segL l (loS 2 ⟨o, n, cc⟩)).length < 1048576, Reads W.cell? g.a (rsAt l) (loS 2 ⟨o, n, cc⟩).o ((loS 2 ⟨o, n, cc⟩).n * 32), ∀ j, j < (loS 2 ⟨o, n, cc⟩).n * 32 → isU8 (rsAt l ((loS 2 ⟨o, n, cc⟩).o + j)) = true, (0 : Int) ≤ 2 ∧ (2 : Int) ≤ ((62 : Nat) : Int), 0 ≤ hfS 2 ⟨o, n, cc⟩ ∧ hfS 2 ⟨o, n, cc⟩ ≤ (cc : Int), bitQ ix 2 = true] (by kernel_rfl)
      ⟨f1, rt, tabsAre, f5, f3, fun _ _ => rfl, by decide, f2, hb, trivial⟩ (by kernel_rfl) (by kernel_rfl) e1 e2 e3 e4
  | false =>
    exact Round.of0 ht (saysY [(48, false)]) 6 [0 ≤ hfS 2 ⟨o, n, cc⟩ ∧ hfS 2 ⟨o, n, cc⟩ ≤ (cc : Int), ReadT W.cell? a 0 72, TabsAre, (segL l (hiS 2 ⟨o, n, cc⟩)).length < 1048576, Reads W.cell? g.a (rsAt l) (hiS 2 ⟨o, n, cc⟩).o ((hiS 2 ⟨o, n, cc⟩).n * 32), ∀ j, j < (hiS 2 ⟨o, n, cc⟩).n * 32 → isU8 (rsAt l ((hiS 2 ⟨o, n, cc⟩).o + j)) = true, (0 : Int) ≤ 2 ∧ (2 : Int) ≤ ((62 : Nat) : Int), 0 ≤ hfS 2 ⟨o, n, cc⟩ ∧ hfS 2 ⟨o, n, cc⟩ ≤ (n : Int), bitQ ix 2 = false] (by kernel_rfl)
      ⟨f2, rt, tabsAre, f6, f4, fun _ _ => rfl, by decide, f1, hb, trivial⟩ (by kernel_rfl) (by kernel_rfl) e1 e2 e3 e4
theorem rb_7_1 (s : Sg) (hs : InS l s) (r0 r1 r2 r3 r4 : Nat → UInt8) (b : Bool) (hb : bitQ ix 1 = b) : Round c (loopNo Tryd.f58 6) (rbS a g l ix 7 1 s [r0, r1, r2, r3, r4]) .normal (rbS a g l ix 7 (0) (stepS b 1 s) ((T (segL l (sibS b 1 s)) 1).f :: [r0, r1, r2, r3, r4])) := by
  obtain ⟨f1, f2, f3, f4, f5, f6⟩ := sg_facts hG hN 1 hs
  obtain ⟨o, n, cc⟩ := s
  cases b with
  | true =>
    exact Round.of0 ht (saysY []) 6 [0 ≤ hfS 1 ⟨o, n, cc⟩ ∧ hfS 1 ⟨o, n, cc⟩ ≤ (n : Int), ReadT W.cell? a 0 72, TabsAre, (segL l (loS 1 ⟨o, n, cc⟩)).length < 1048576, Reads W.cell? g.a (rsAt l) (loS 1 ⟨o, n, cc⟩).o ((loS 1 ⟨o, n, cc⟩).n * 32), ∀ j, j < (loS 1 ⟨o, n, cc⟩).n * 32 → isU8 (rsAt l ((loS 1 ⟨o, n, cc⟩).o + j)) = true, (0 : Int) ≤ 1 ∧ (1 : Int) ≤ ((62 : Nat) : Int), 0 ≤ hfS 1 ⟨o, n, cc⟩ ∧ hfS 1 ⟨o, n, cc⟩ ≤ (cc : Int), bitQ ix 1 = true] (by kernel_rfl)
      ⟨f1, rt, tabsAre, f5, f3, fun _ _ => rfl, by decide, f2, hb, trivial⟩ (by kernel_rfl) (by kernel_rfl) e1 e2 e3 e4
  | false =>
    exact Round.of0 ht (saysY [(48, false)]) 6 [0 ≤ hfS 1 ⟨o, n, cc⟩ ∧ hfS 1 ⟨o, n, cc⟩ ≤ (cc : Int), ReadT W.cell? a 0 72, TabsAre, (segL l (hiS 1 ⟨o, n, cc⟩)).length < 1048576, Reads W.cell? g.a (rsAt l) (hiS 1 ⟨o, n, cc⟩).o ((hiS 1 ⟨o, n, cc⟩).n * 32), ∀ j, j < (hiS 1 ⟨o, n, cc⟩).n * 32 → isU8 (rsAt l ((hiS 1 ⟨o, n, cc⟩).o + j)) = true, (0 : Int) ≤ 1 ∧ (1 : Int) ≤ ((62 : Nat) : Int), 0 ≤ hfS 1 ⟨o, n, cc⟩ ∧ hfS 1 ⟨o, n, cc⟩ ≤ (n : Int), bitQ ix 1 = false] (by kernel_rfl)
      ⟨f2, rt, tabsAre, f6, f4, fun _ _ => rfl, by decide, f1, hb, trivial⟩ (by kernel_rfl) (by kernel_rfl) e1 e2 e3 e4
theorem rb_7_0 (s : Sg) (hs : InS l s) (r0 r1 r2 r3 r4 r5 : Nat → UInt8) (b : Bool) (hb : bitQ ix 0 = b) : Round c (loopNo Tryd.f58 6) (rbS a g l ix 7 0 s [r0, r1, r2, r3, r4, r5]) .normal (rbS a g l ix 7 (-1) (stepS b 0 s) ((T (segL l (sibS b 0 s)) 0).f :: [r0, r1, r2, r3, r4, r5])) := by
  obtain ⟨f1, f2, f3, f4, f5, f6⟩ := sg_facts hG hN 0 hs
  obtain ⟨o, n, cc⟩ := s
  cases b with
  | true =>
    exact Round.of0 ht (saysY []) 6 [0 ≤ hfS 0 ⟨o, n, cc⟩ ∧ hfS 0 ⟨o, n, cc⟩ ≤ (n : Int), ReadT W.cell? a 0 72, TabsAre, (segL l (loS 0 ⟨o, n, cc⟩)).length < 1048576, Reads W.cell? g.a (rsAt l) (loS 0 ⟨o, n, cc⟩).o ((loS 0 ⟨o, n, cc⟩).n * 32), ∀ j, j < (loS 0 ⟨o, n, cc⟩).n * 32 → isU8 (rsAt l ((loS 0 ⟨o, n, cc⟩).o + j)) = true, (0 : Int) ≤ 0 ∧ (0 : Int) ≤ ((62 : Nat) : Int), 0 ≤ hfS 0 ⟨o, n, cc⟩ ∧ hfS 0 ⟨o, n, cc⟩ ≤ (cc : Int), bitQ ix 0 = true] (by kernel_rfl)
      ⟨f1, rt, tabsAre, f5, f3, fun _ _ => rfl, by decide, f2, hb, trivial⟩ (by kernel_rfl) (by kernel_rfl) e1 e2 e3 e4
  | false =>
    exact Round.of0 ht (saysY [(48, false)]) 6 [0 ≤ hfS 0 ⟨o, n, cc⟩ ∧ hfS 0 ⟨o, n, cc⟩ ≤ (cc : Int), ReadT W.cell? a 0 72, TabsAre, (segL l (hiS 0 ⟨o, n, cc⟩)).length < 1048576, Reads W.cell? g.a (rsAt l) (hiS 0 ⟨o, n, cc⟩).o ((hiS 0 ⟨o, n, cc⟩).n * 32), ∀ j, j < (hiS 0 ⟨o, n, cc⟩).n * 32 → isU8 (rsAt l ((hiS 0 ⟨o, n, cc⟩).o + j)) = true, (0 : Int) ≤ 0 ∧ (0 : Int) ≤ ((62 : Nat) : Int), 0 ≤ hfS 0 ⟨o, n, cc⟩ ∧ hfS 0 ⟨o, n, cc⟩ ≤ (n : Int), bitQ ix 0 = false] (by kernel_rfl)
      ⟨f2, rt, tabsAre, f6, f4, fun _ _ => rfl, by decide, f1, hb, trivial⟩ (by kernel_rfl) (by kernel_rfl) e1 e2 e3 e4
theorem rbE_7 (s : Sg) (r0 r1 r2 r3 r4 r5 r6 : Nat → UInt8) : Round c (loopNo Tryd.f58 6) (rbS a g l ix 7 (-1) s [r0, r1, r2, r3, r4, r5, r6]) (.exit 0) (rbS a g l ix 7 (-1) s [r0, r1, r2, r3, r4, r5, r6]) :=
  Round.of0 ht (saysY []) 6 [] (by kernel_rfl) trivial (by kernel_rfl) (by kernel_rfl) e1 e2 e3 e4
theorem rbG_7 (s : Sg) (hs : InS l s) : Goes c (loopNo Tryd.f58 6) (rbS a g l ix 7 (6) s []) (.exit 0) (rbS a g l ix 7 (-1) (rbR T l ix 7 s []).1 (rbR T l ix 7 s []).2) :=
  Goes.step (rb_7_6 T ht a rt g hG hN ix e1 e2 e3 e4 _ hs _ rfl) (Goes.step (rb_7_5 T ht a rt g hG hN ix e1 e2 e3 e4 _ (inS_step _ 6 hs) _ _ rfl) (Goes.step (rb_7_4 T ht a rt g hG hN ix e1 e2 e3 e4 _ (inS_step _ 5 (inS_step _ 6 hs)) _ _ _ rfl) (Goes.step (rb_7_3 T ht a rt g hG hN ix e1 e2 e3 e4 _ (inS_step _ 4 (inS_step _ 5 (inS_step _ 6 hs))) _ _ _ _ rfl) (Goes.step (rb_7_2 T ht a rt g hG hN ix e1 e2 e3 e4 _ (inS_step _ 3 (inS_step _ 4 (inS_step _ 5 (inS_step _ 6 hs)))) _ _ _ _ _ rfl) (Goes.step (rb_7_1 T ht a rt g hG hN ix e1 e2 e3 e4 _ (inS_step _ 2 (inS_step _ 3 (inS_step _ 4 (inS_step _ 5 (inS_step _ 6 hs))))) _ _ _ _ _ _ rfl) (Goes.step (rb_7_0 T ht a rt g hG hN ix e1 e2 e3 e4 _ (inS_step _ 1 (inS_step _ 2 (inS_step _ 3 (inS_step _ 4 (inS_step _ 5 (inS_step _ 6 hs)))))) _ _ _ _ _ _ _ rfl) (Goes.last (by simp) (rbE_7 T ht a rt g hG hN ix e1 e2 e3 e4 _ _ _ _ _ _ _ _))))))))
theorem rb_8_7 (s : Sg) (hs : InS l s) (b : Bool) (hb : bitQ ix 7 = b) : Round c (loopNo Tryd.f58 6) (rbS a g l ix 8 7 s []) .normal (rbS a g l ix 8 (6) (stepS b 7 s) ((T (segL l (sibS b 7 s)) 7).f :: [])) := by
  obtain ⟨f1, f2, f3, f4, f5, f6⟩ := sg_facts hG hN 7 hs
  obtain ⟨o, n, cc⟩ := s
  cases b with
  | true =>
    exact Round.of0 ht (saysY []) 6 [0 ≤ hfS 7 ⟨o, n, cc⟩ ∧ hfS 7 ⟨o, n, cc⟩ ≤ (n : Int), ReadT W.cell? a 0 72, TabsAre, (segL l (loS 7 ⟨o, n, cc⟩)).length < 1048576, Reads W.cell? g.a (rsAt l) (loS 7 ⟨o, n, cc⟩).o ((loS 7 ⟨o, n, cc⟩).n * 32), ∀ j, j < (loS 7 ⟨o, n, cc⟩).n * 32 → isU8 (rsAt l ((loS 7 ⟨o, n, cc⟩).o + j)) = true, (0 : Int) ≤ 7 ∧ (7 : Int) ≤ ((62 : Nat) : Int), 0 ≤ hfS 7 ⟨o, n, cc⟩ ∧ hfS 7 ⟨o, n, cc⟩ ≤ (cc : Int), bitQ ix 7 = true] (by kernel_rfl)
      ⟨f1, rt, tabsAre, f5, f3, fun _ _ => rfl, by decide, f2, hb, trivial⟩ (by kernel_rfl) (by kernel_rfl) e1 e2 e3 e4
  | false =>
    exact Round.of0 ht (saysY [(48, false)]) 6 [0 ≤ hfS 7 ⟨o, n, cc⟩ ∧ hfS 7 ⟨o, n, cc⟩ ≤ (cc : Int), ReadT W.cell? a 0 72, TabsAre, (segL l (hiS 7 ⟨o, n, cc⟩)).length < 1048576, Reads W.cell? g.a (rsAt l) (hiS 7 ⟨o, n, cc⟩).o ((hiS 7 ⟨o, n, cc⟩).n * 32), ∀ j, j < (hiS 7 ⟨o, n, cc⟩).n * 32 → isU8 (rsAt l ((hiS 7 ⟨o, n, cc⟩).o + j)) = true, (0 : Int) ≤ 7 ∧ (7 : Int) ≤ ((62 : Nat) : Int), 0 ≤ hfS 7 ⟨o, n, cc⟩ ∧ hfS 7 ⟨o, n, cc⟩ ≤ (n : Int), bitQ ix 7 = false] (by kernel_rfl)
      ⟨f2, rt, tabsAre, f6, f4, fun _ _ => rfl, by decide, f1, hb, trivial⟩ (by kernel_rfl) (by kernel_rfl) e1 e2 e3 e4
theorem rb_8_6 (s : Sg) (hs : InS l s) (r0 : Nat → UInt8) (b : Bool) (hb : bitQ ix 6 = b) : Round c (loopNo Tryd.f58 6) (rbS a g l ix 8 6 s [r0]) .normal (rbS a g l ix 8 (5) (stepS b 6 s) ((T (segL l (sibS b 6 s)) 6).f :: [r0])) := by
  obtain ⟨f1, f2, f3, f4, f5, f6⟩ := sg_facts hG hN 6 hs
  obtain ⟨o, n, cc⟩ := s
  cases b with
  | true =>
    exact Round.of0 ht (saysY []) 6 [0 ≤ hfS 6 ⟨o, n, cc⟩ ∧ hfS 6 ⟨o, n, cc⟩ ≤ (n : Int), ReadT W.cell? a 0 72, TabsAre, (segL l (loS 6 ⟨o, n, cc⟩)).length < 1048576, Reads W.cell? g.a (rsAt l) (loS 6 ⟨o, n, cc⟩).o ((loS 6 ⟨o, n, cc⟩).n * 32), ∀ j, j < (loS 6 ⟨o, n, cc⟩).n * 32 → isU8 (rsAt l ((loS 6 ⟨o, n, cc⟩).o + j)) = true, (0 : Int) ≤ 6 ∧ (6 : Int) ≤ ((62 : Nat) : Int), 0 ≤ hfS 6 ⟨o, n, cc⟩ ∧ hfS 6 ⟨o, n, cc⟩ ≤ (cc : Int), bitQ ix 6 = true] (by kernel_rfl)
      ⟨f1, rt, tabsAre, f5, f3, fun _ _ => rfl, by decide, f2, hb, trivial⟩ (by kernel_rfl) (by kernel_rfl) e1 e2 e3 e4
  | false =>
    exact Round.of0 ht (saysY [(48, false)]) 6 [0 ≤ hfS 6 ⟨o, n, cc⟩ ∧ hfS 6 ⟨o, n, cc⟩ ≤ (cc : Int), ReadT W.cell? a 0 72, TabsAre, (segL l (hiS 6 ⟨o, n, cc⟩)).length < 1048576, Reads W.cell? g.a (rsAt l) (hiS 6 ⟨o, n, cc⟩).o ((hiS 6 ⟨o, n, cc⟩).n * 32), ∀ j, j < (hiS 6 ⟨o, n, cc⟩).n * 32 → isU8 (rsAt l ((hiS 6 ⟨o, n, cc⟩).o + j)) = true, (0 : Int) ≤ 6 ∧ (6 : Int) ≤ ((62 : Nat) : Int), 0 ≤ hfS 6 ⟨o, n, cc⟩ ∧ hfS 6 ⟨o, n, cc⟩ ≤ (n : Int), bitQ ix 6 = false] (by kernel_rfl)
      ⟨f2, rt, tabsAre, f6, f4, fun _ _ => rfl, by decide, f1, hb, trivial⟩ (by kernel_rfl) (by kernel_rfl) e1 e2 e3 e4
theorem rb_8_5 (s : Sg) (hs : InS l s) (r0 r1 : Nat → UInt8) (b : Bool) (hb : bitQ ix 5 = b) : Round c (loopNo Tryd.f58 6) (rbS a g l ix 8 5 s [r0, r1]) .normal (rbS a g l ix 8 (4) (stepS b 5 s) ((T (segL l (sibS b 5 s)) 5).f :: [r0, r1])) := by
  obtain ⟨f1, f2, f3, f4, f5, f6⟩ := sg_facts hG hN 5 hs
  obtain ⟨o, n, cc⟩ := s
  cases b with
  | true =>
    exact Round.of0 ht (saysY []) 6 [0 ≤ hfS 5 ⟨o, n, cc⟩ ∧ hfS 5 ⟨o, n, cc⟩ ≤ (n : Int), ReadT W.cell? a 0 72, TabsAre, (segL l (loS 5 ⟨o, n, cc⟩)).length < 1048576, Reads W.cell? g.a (rsAt l) (loS 5 ⟨o, n, cc⟩).o ((loS 5 ⟨o, n, cc⟩).n * 32), ∀ j, j < (loS 5 ⟨o, n, cc⟩).n * 32 → isU8 (rsAt l ((loS 5 ⟨o, n, cc⟩).o + j)) = true, (0 : Int) ≤ 5 ∧ (5 : Int) ≤ ((62 : Nat) : Int), 0 ≤ hfS 5 ⟨o, n, cc⟩ ∧ hfS 5 ⟨o, n, cc⟩ ≤ (cc : Int), bitQ ix 5 = true] (by kernel_rfl)
      ⟨f1, rt, tabsAre, f5, f3, fun _ _ => rfl, by decide, f2, hb, trivial⟩ (by kernel_rfl) (by kernel_rfl) e1 e2 e3 e4
  | false =>
    exact Round.of0 ht (saysY [(48, false)]) 6 [0 ≤ hfS 5 ⟨o, n, cc⟩ ∧ hfS 5 ⟨o, n, cc⟩ ≤ (cc : Int), ReadT W.cell? a 0 72, TabsAre, (segL l (hiS 5 ⟨o, n, cc⟩)).length < 1048576, Reads W.cell? g.a (rsAt l) (hiS 5 ⟨o, n, cc⟩).o ((hiS 5 ⟨o, n, cc⟩).n * 32), ∀ j, j < (hiS 5 ⟨o, n, cc⟩).n * 32 → isU8 (rsAt l ((hiS 5 ⟨o, n, cc⟩).o + j)) = true, (0 : Int) ≤ 5 ∧ (5 : Int) ≤ ((62 : Nat) : Int), 0 ≤ hfS 5 ⟨o, n, cc⟩ ∧ hfS 5 ⟨o, n, cc⟩ ≤ (n : Int), bitQ ix 5 = false] (by kernel_rfl)
      ⟨f2, rt, tabsAre, f6, f4, fun _ _ => rfl, by decide, f1, hb, trivial⟩ (by kernel_rfl) (by kernel_rfl) e1 e2 e3 e4
theorem rb_8_4 (s : Sg) (hs : InS l s) (r0 r1 r2 : Nat → UInt8) (b : Bool) (hb : bitQ ix 4 = b) : Round c (loopNo Tryd.f58 6) (rbS a g l ix 8 4 s [r0, r1, r2]) .normal (rbS a g l ix 8 (3) (stepS b 4 s) ((T (segL l (sibS b 4 s)) 4).f :: [r0, r1, r2])) := by
  obtain ⟨f1, f2, f3, f4, f5, f6⟩ := sg_facts hG hN 4 hs
  obtain ⟨o, n, cc⟩ := s
  cases b with
  | true =>
    exact Round.of0 ht (saysY []) 6 [0 ≤ hfS 4 ⟨o, n, cc⟩ ∧ hfS 4 ⟨o, n, cc⟩ ≤ (n : Int), ReadT W.cell? a 0 72, TabsAre, (segL l (loS 4 ⟨o, n, cc⟩)).length < 1048576, Reads W.cell? g.a (rsAt l) (loS 4 ⟨o, n, cc⟩).o ((loS 4 ⟨o, n, cc⟩).n * 32), ∀ j, j < (loS 4 ⟨o, n, cc⟩).n * 32 → isU8 (rsAt l ((loS 4 ⟨o, n, cc⟩).o + j)) = true, (0 : Int) ≤ 4 ∧ (4 : Int) ≤ ((62 : Nat) : Int), 0 ≤ hfS 4 ⟨o, n, cc⟩ ∧ hfS 4 ⟨o, n, cc⟩ ≤ (cc : Int), bitQ ix 4 = true] (by kernel_rfl)
      ⟨f1, rt, tabsAre, f5, f3, fun _ _ => rfl, by decide, f2, hb, trivial⟩ (by kernel_rfl) (by kernel_rfl) e1 e2 e3 e4
  | false =>
    exact Round.of0 ht (saysY [(48, false)]) 6 [0 ≤ hfS 4 ⟨o, n, cc⟩ ∧ hfS 4 ⟨o, n, cc⟩ ≤ (cc : Int), ReadT W.cell? a 0 72, TabsAre, (segL l (hiS 4 ⟨o, n, cc⟩)).length < 1048576, Reads W.cell? g.a (rsAt l) (hiS 4 ⟨o, n, cc⟩).o ((hiS 4 ⟨o, n, cc⟩).n * 32), ∀ j, j < (hiS 4 ⟨o, n, cc⟩).n * 32 → isU8 (rsAt l ((hiS 4 ⟨o, n, cc⟩).o + j)) = true, (0 : Int) ≤ 4 ∧ (4 : Int) ≤ ((62 : Nat) : Int), 0 ≤ hfS 4 ⟨o, n, cc⟩ ∧ hfS 4 ⟨o, n, cc⟩ ≤ (n : Int), bitQ ix 4 = false] (by kernel_rfl)
      ⟨f2, rt, tabsAre, f6, f4, fun _ _ => rfl, by decide, f1, hb, trivial⟩ (by kernel_rfl) (by kernel_rfl) e1 e2 e3 e4
theorem rb_8_3 (s : Sg) (hs : InS l s) (r0 r1 r2 r3 : Nat → UInt8) (b : Bool) (hb : bitQ ix 3 = b) : Round c (loopNo Tryd.f58 6) (rbS a g l ix 8 3 s [r0, r1, r2, r3]) .normal (rbS a g l ix 8 (2) (stepS b 3 s) ((T (segL l (sibS b 3 s)) 3).f :: [r0, r1, r2, r3])) := by
  obtain ⟨f1, f2, f3, f4, f5, f6⟩ := sg_facts hG hN 3 hs
  obtain ⟨o, n, cc⟩ := s
  cases b with
  | true =>
    exact Round.of0 ht (saysY []) 6 [0 ≤ hfS 3 ⟨o, n, cc⟩ ∧ hfS 3 ⟨o, n, cc⟩ ≤ (n : Int), ReadT W.cell? a 0 72, TabsAre, (segL l (loS 3 ⟨o, n, cc⟩)).length < 1048576, Reads W.cell? g.a (rsAt l) (loS 3 ⟨o, n, cc⟩).o ((loS 3 ⟨o, n, cc⟩).n * 32), ∀ j, j < (loS 3 ⟨o, n, cc⟩).n * 32 → isU8 (rsAt l ((loS 3 ⟨o, n, cc⟩).o + j)) = true, (0 : Int) ≤ 3 ∧ (3 : Int) ≤ ((62 : Nat) : Int), 0 ≤ hfS 3 ⟨o, n, cc⟩ ∧ hfS 3 ⟨o, n, cc⟩ ≤ (cc : Int), bitQ ix 3 = true] (by kernel_rfl)
      ⟨f1, rt, tabsAre, f5, f3, fun _ _ => rfl, by decide, f2, hb, trivial⟩ (by kernel_rfl) (by kernel_rfl) e1 e2 e3 e4
  | false =>
    exact Round.of0 ht (saysY [(48, false)]) 6 [0 ≤ hfS 3 ⟨o, n, cc⟩ ∧ hfS 3 ⟨o, n, cc⟩ ≤ (cc : Int), ReadT W.cell? a 0 72, TabsAre, (segL l (hiS 3 ⟨o, n, cc⟩)).length < 1048576, Reads W.cell? g.a (rsAt l) (hiS 3 ⟨o, n, cc⟩).o ((hiS 3 ⟨o, n, cc⟩).n * 32), ∀ j, j < (hiS 3 ⟨o, n, cc⟩).n * 32 → isU8 (rsAt l ((hiS 3 ⟨o, n, cc⟩).o + j)) = true, (0 : Int) ≤ 3 ∧ (3 : Int) ≤ ((62 : Nat) : Int), 0 ≤ hfS 3 ⟨o, n, cc⟩ ∧ hfS 3 ⟨o, n, cc⟩ ≤ (n : Int), bitQ ix 3 = false] (by kernel_rfl)
      ⟨f2, rt, tabsAre, f6, f4, fun _ _ => rfl, by decide, f1, hb, trivial⟩ (by kernel_rfl) (by kernel_rfl) e1 e2 e3 e4
theorem rb_8_2 (s : Sg) (hs : InS l s) (r0 r1 r2 r3 r4 : Nat → UInt8) (b : Bool) (hb : bitQ ix 2 = b) : Round c (loopNo Tryd.f58 6) (rbS a g l ix 8 2 s [r0, r1, r2, r3, r4]) .normal (rbS a g l ix 8 (1) (stepS b 2 s) ((T (segL l (sibS b 2 s)) 2).f :: [r0, r1, r2, r3, r4])) := by
  obtain ⟨f1, f2, f3, f4, f5, f6⟩ := sg_facts hG hN 2 hs
  obtain ⟨o, n, cc⟩ := s
  cases b with
  | true =>
    exact Round.of0 ht (saysY []) 6 [0 ≤ hfS 2 ⟨o, n, cc⟩ ∧ hfS 2 ⟨o, n, cc⟩ ≤ (n : Int), ReadT W.cell? a 0 72, TabsAre, (segL l (loS 2 ⟨o, n, cc⟩)).length < 1048576, Reads W.cell? g.a (rsAt l) (loS 2 ⟨o, n, cc⟩).o ((loS 2 ⟨o, n, cc⟩).n * 32), ∀ j, j < (loS 2 ⟨o, n, cc⟩).n * 32 → isU8 (rsAt l ((loS 2 ⟨o, n, cc⟩).o + j)) = true, (0 : Int) ≤ 2 ∧ (2 : Int) ≤ ((62 : Nat) : Int), 0 ≤ hfS 2 ⟨o, n, cc⟩ ∧ hfS 2 ⟨o, n, cc⟩ ≤ (cc : Int), bitQ ix 2 = true] (by kernel_rfl)
      ⟨f1, rt, tabsAre, f5, f3, fun _ _ => rfl, by decide, f2, hb, trivial⟩ (by kernel_rfl) (by kernel_rfl) e1 e2 e3 e4
  | false =>
    exact Round.of0 ht (saysY [(48, false)]) 6 [0 ≤ hfS 2 ⟨o, n, cc⟩ ∧ hfS 2 ⟨o, n, cc⟩ ≤ (cc : Int), ReadT W.cell? a 0 72, TabsAre, (segL l (hiS 2 ⟨o, n, cc⟩)).length < 1048576, Reads W.cell? g.a (rsAt l) (hiS 2 ⟨o, n, cc⟩).o ((hiS 2 ⟨o, n, cc⟩).n * 32), ∀ j, j < (hiS 2 ⟨o, n, cc⟩).n * 32 → isU8 (rsAt l ((hiS 2 ⟨o, n, cc⟩).o + j)) = true, (0 : Int) ≤ 2 ∧ (2 : Int) ≤ ((62 : Nat) : Int), 0 ≤ hfS 2 ⟨o, n, cc⟩ ∧ hfS 2 ⟨o, n, cc⟩ ≤ (n : Int), bitQ ix 2 = false] (by kernel_rfl)
      ⟨f2, rt, tabsAre, f6, f4, fun _ _ => rfl, by decide, f1, hb, trivial⟩ (by kernel_rfl) (by kernel_rfl) e1 e2 e3 e4
theorem rb_8_1 (s : Sg) (hs : InS l s) (r0 r1 r2 r3 r4 r5 : Nat → UInt8) (b : Bool) (hb : bitQ ix 1 = b) : Round c (loopNo Tryd.f58 6) (rbS a g l ix 8 1 s [r0, r1, r2, r3, r4, r5]) .normal (rbS a g l ix 8 (0) (stepS b 1 s) ((T (segL l (sibS b 1 s)) 1).f :: [r0, r1, r2, r3, r4, r5])) := by
  obtain ⟨f1, f2, f3, f4, f5, f6⟩ := sg_facts hG hN 1 hs
  obtain ⟨o, n, cc⟩ := s
  cases b with
  | true =>
    exact Round.of0 ht (saysY []) 6 [0 ≤ hfS 1 ⟨o, n, cc⟩ ∧ hfS 1 ⟨o, n, cc⟩ ≤ (n : Int), ReadT W.cell? a 0 72, TabsAre, (segL l (loS 1 ⟨o, n, cc⟩)).length < 1048576, Reads W.cell? g.a (rsAt l) (loS 1 ⟨o, n, cc⟩).o ((loS 1 ⟨o, n, cc⟩).n * 32), ∀ j, j < (loS 1 ⟨o, n, cc⟩).n * 32 → isU8 (rsAt l ((loS 1 ⟨o, n, cc⟩).o + j)) = true, (0 : Int) ≤ 1 ∧ (1 : Int) ≤ ((62 : Nat) : Int), 0 ≤ hfS 1 ⟨o, n, cc⟩ ∧ hfS 1 ⟨o, n, cc⟩ ≤ (cc : Int), bitQ ix 1 = true] (by kernel_rfl)
      ⟨f1, rt, tabsAre, f5, f3, fun _ _ => rfl, by decide, f2, hb, trivial⟩ (by kernel_rfl) (by kernel_rfl) e1 e2 e3 e4
  | false =>
    exact Round.of0 ht (saysY [(48, false)]) 6 [0 ≤ hfS 1 ⟨o, n, cc⟩ ∧ hfS 1 ⟨o, n, cc⟩ ≤ (cc : Int), ReadT W.cell? a 0 72, TabsAre, (segL l (hiS 1 ⟨o, n, cc⟩)).length < 1048576, Reads W.cell? g.a (rsAt l) (hiS 1 ⟨o, n, cc⟩).o ((hiS 1 ⟨o, n, cc⟩).n * 32), ∀ j, j < (hiS 1 ⟨o, n, cc⟩).n * 32 → isU8 (rsAt l ((hiS 1 ⟨o, n, cc⟩).o + j)) = true, (0 : Int) ≤ 1 ∧ (1 : Int) ≤ ((62 : Nat) : Int), 0 ≤ hfS 1 ⟨o, n, cc⟩ ∧ hfS 1 ⟨o, n, cc⟩ ≤ (n : Int), bitQ ix 1 = false] (by kernel_rfl)
      ⟨f2, rt, tabsAre, f6, f4, fun _ _ => rfl, by decide, f1, hb, trivial⟩ (by kernel_rfl) (by kernel_rfl) e1 e2 e3 e4
theorem rb_8_0 (s : Sg) (hs : InS l s) (r0 r1 r2 r3 r4 r5 r6 : Nat → UInt8) (b : Bool) (hb : bitQ ix 0 = b) : Round c (loopNo Tryd.f58 6) (rbS a g l ix 8 0 s [r0, r1, r2, r3, r4, r5, r6]) .normal (rbS a g l ix 8 (-1) (stepS b 0 s) ((T (segL l (sibS b 0 s)) 0).f :: [r0, r1, r2, r3, r4, r5, r6])) := by
  obtain ⟨f1, f2, f3, f4, f5, f6⟩ := sg_facts hG hN 0 hs
  obtain ⟨o, n, cc⟩ := s
  cases b with
  | true =>
    exact Round.of0 ht (saysY []) 6 [0 ≤ hfS 0 ⟨o, n, cc⟩ ∧ hfS 0 ⟨o, n, cc⟩ ≤ (n : Int), ReadT W.cell? a 0 72, TabsAre, (segL l (loS 0 ⟨o, n, cc⟩)).length < 1048576, Reads W.cell? g.a (rsAt l) (loS 0 ⟨o, n, cc⟩).o ((loS 0 ⟨o, n, cc⟩).n * 32), ∀ j, j < (loS 0 ⟨o, n, cc⟩).n * 32 → isU8 (rsAt l ((loS 0 ⟨o, n, cc⟩).o + j)) = true, (0 : Int) ≤ 0 ∧ (0 : Int) ≤ ((62 : Nat) : Int), 0 ≤ hfS 0 ⟨o, n, cc⟩ ∧ hfS 0 ⟨o, n, cc⟩ ≤ (cc : Int), bitQ ix 0 = true] (by kernel_rfl)
      ⟨f1, rt, tabsAre, f5, f3, fun _ _ => rfl, by decide, f2, hb, trivial⟩ (by kernel_rfl) (by kernel_rfl) e1 e2 e3 e4
  | false =>
    exact Round.of0 ht (saysY [(48, false)]) 6 [0 ≤ hfS 0 ⟨o, n, cc⟩ ∧ hfS 0 ⟨o, n, cc⟩ ≤ (cc : Int), ReadT W.cell? a 0 72, TabsAre, (segL l (hiS 0 ⟨o, n, cc⟩)).length < 1048576, Reads W.cell? g.a (rsAt l) (hiS 0 ⟨o, n, cc⟩).o ((hiS 0 ⟨o, n, cc⟩).n * 32), ∀ j, j < (hiS 0 ⟨o, n, cc⟩).n * 32 → isU8 (rsAt l ((hiS 0 ⟨o, n, cc⟩).o + j)) = true, (0 : Int) ≤ 0 ∧ (0 : Int) ≤ ((62 : Nat) : Int), 0 ≤ hfS 0 ⟨o, n, cc⟩ ∧ hfS 0 ⟨o, n, cc⟩ ≤ (n : Int), bitQ ix 0 = false] (by kernel_rfl)
      ⟨f2, rt, tabsAre, f6, f4, fun _ _ => rfl, by decide, f1, hb, trivial⟩ (by kernel_rfl) (by kernel_rfl) e1 e2 e3 e4
theorem rbE_8 (s : Sg) (r0 r1 r2 r3 r4 r5 r6 r7 : Nat → UInt8) : Round c (loopNo Tryd.f58 6) (rbS a g l ix 8 (-1) s [r0, r1, r2, r3, r4, r5, r6, r7]) (.exit 0) (rbS a g l ix 8 (-1) s [r0, r1, r2, r3, r4, r5, r6, r7]) :=
  Round.of0 ht (saysY []) 6 [] (by kernel_rfl) trivial (by kernel_rfl) (by kernel_rfl) e1 e2 e3 e4
theorem rbG_8 (s : Sg) (hs : InS l s) : Goes c (loopNo Tryd.f58 6) (rbS a g l ix 8 (7) s []) (.exit 0) (rbS a g l ix 8 (-1) (rbR T l ix 8 s []).1 (rbR T l ix 8 s []).2) :=
  Goes.step (rb_8_7 T ht a rt g hG hN ix e1 e2 e3 e4 _ hs _ rfl) (Goes.step (rb_8_6 T ht a rt g hG hN ix e1 e2 e3 e4 _ (inS_step _ 7 hs) _ _ rfl) (Goes.step (rb_8_5 T ht a rt g hG hN ix e1 e2 e3 e4 _ (inS_step _ 6 (inS_step _ 7 hs)) _ _ _ rfl) (Goes.step (rb_8_4 T ht a rt g hG hN ix e1 e2 e3 e4 _ (inS_step _ 5 (inS_step _ 6 (inS_step _ 7 hs))) _ _ _ _ rfl) (Goes.step (rb_8_3 T ht a rt g hG hN ix e1 e2 e3 e4 _ (inS_step _ 4 (inS_step _ 5 (inS_step _ 6 (inS_step _ 7 hs)))) _ _ _ _ _ rfl) (Goes.step (rb_8_2 T ht a rt g hG hN ix e1 e2 e3 e4 _ (inS_step _ 3 (inS_step _ 4 (inS_step _ 5 (inS_step _ 6 (inS_step _ 7 hs))))) _ _ _ _ _ _ rfl) (Goes.step (rb_8_1 T ht a rt g hG hN ix e1 e2 e3 e4 _ (inS_step _ 2 (inS_step _ 3 (inS_step _ 4 (inS_step _ 5 (inS_step _ 6 (inS_step _ 7 hs)))))) _ _ _ _ _ _ _ rfl) (Goes.step (rb_8_0 T ht a rt g hG hN ix e1 e2 e3 e4 _ (inS_step _ 1 (inS_step _ 2 (inS_step _ 3 (inS_step _ 4 (inS_step _ 5 (inS_step _ 6 (inS_step _ 7 hs))))))) _ _ _ _ _ _ _ _ rfl) (Goes.last (by simp) (rbE_8 T ht a rt g hG hN ix e1 e2 e3 e4 _ _ _ _ _ _ _ _ _)))))))))
end
end Go.Proofs.YtaloefkkllebeaaDoor
