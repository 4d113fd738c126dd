/- Roots: numbers' chunks. -/
import Derived.Test.YtaloefkkllebeaaDoorTj
import Derived.Test.YtaloefkkllebeaaDoorTk
set_option linter.unusedVariables false
set_option linter.unusedSimpArgs false
set_option linter.unusedSectionVars false
set_option maxRecDepth 100000
namespace Go.Sh
/-- No slice. -/
structure Ni where
  u : Unit
instance : Arg A Ni where
  G := Unit
  good W g x := True
  tv g x := .val false [.v (.slice none 0 0)]
  val g x := .slice none 0 0
  is := by
    intro W g x β h
    exact LIs.of_single ⟨rfl, rfl⟩
  parse old m t := match t with | .val false [.v (.slice none 0 0)] => some (⟨()⟩, []) | _ => none
  ok := by
    intro c X W0 W β m t x vc v h hvc hm e
    split at h
    · simp at h
      obtain ⟨rfl, rfl⟩ := h
      obtain ⟨e1, _⟩ := LIs.single (e : LIs β _ [v])
      simp at e1
      exact ⟨(), trivial, e1⟩
    · cases h
end Go.Sh
namespace Go.Sh
def byU (n : UInt64) (i : Nat) : UInt8 := UInt8.ofNat (((UInt64.ofNat (n.toNat / 2 ^ min i IntKind.u64.bits)).toNat : Int) % 256).toNat
def bytes8 (n : UInt64) : List UInt8 := [byU n 0, byU n 8, byU n 16, byU n 24, byU n 32, byU n 40, byU n 48, byU n 56]
/-- A number's chunk. -/
def chunkV (n : UInt64) : R8 32 := ⟨pickN 0 (bytes8 n ++ List.replicate 24 (UInt8.ofNat 0))⟩
def GrK (k : Nat) : Prop := k = k ∧ timesN k (0 + 1) = k ∧ Sh.Bears (k + 1) 1
theorem grK {k : Nat} (h : k < 1048576) : GrK k := ⟨rfl, by rw [timesN_eq, Nat.zero_add, Nat.mul_one], by unfold Sh.Bears maxLen; omega⟩
def oneC (x : UInt8) : Nat → A := fun j => ([(At.u8 x : A)][j]?).getD (At.u8 x)
def uiF (n : UInt64) : Nat → Nat → A
  | 0 => fun q => oneC (byU n 0) (0 + q)
  | k + 1 => catF (uiF n k) (timesN (k + 1) (0 + 1)) (oneC (byU n (8 * (k + 1)))) 0
theorem oneC_u8 (x : UInt8) (j : Nat) : isU8 (oneC x j) = true := by
  unfold oneC
  cases j <;> rfl
theorem uiF_u8 (n : UInt64) : ∀ (k i : Nat), isU8 (uiF n k i) = true
  | 0, i => oneC_u8 _ _
  | k + 1, i => by
    simp only [uiF, catF]
    split
    · exact uiF_u8 n k i
    · exact oneC_u8 _ _
end Go.Sh
namespace Go.Proofs.YtaloefkkllebeaaDoor
open Go Go.Sh
theorem chunk_ok : Computes A Tryd.prog 94 (fun x : UInt64 × Unit => chunkV x.1) := by
  refine computes_of_run (TblOK.nil _) Tryd.func94 (by kernel_rfl) (by kernel_rfl) 20 ?_
  rintro _ ⟨n, ⟨⟩⟩ W -
  exact ⟨fun _ _ => .keep, chunkV n, [], by kernel_rfl, trivial, rfl⟩
theorem uint_ok : Computes A Tryd.prog 91 (fun x : Ni × UInt64 × Unit => (⟨bytes8 x.2.1⟩ : Bz)) := by
  refine computes_of_run (TblOK.nil _) Tryd.func91 (by kernel_rfl) (by kernel_rfl) 20 ?_
  rintro _ ⟨⟨⟩, n, ⟨⟩⟩ W -
  exact ⟨fun _ _ => .keep, ⟨bytes8 n⟩, [∀ j, j < 8 → isU8 (uiF n 7 (0 + j)) = true, GrK 7, GrK 6, GrK 5, GrK 4, GrK 3, GrK 2, GrK 1, Sh.Bears 1 1], by kernel_rfl, ⟨fun j _ => uiF_u8 n 7 _, grK (by decide), grK (by decide), grK (by decide), grK (by decide), grK (by decide), grK (by decide), grK (by decide), by unfold Sh.Bears maxLen; omega, trivial⟩, rfl⟩
noncomputable def tblCh : List (Row A) := [rowOf A 91 (fun x : Ni × UInt64 × Unit => (⟨bytes8 x.2.1⟩ : Bz))]
end Go.Proofs.YtaloefkkllebeaaDoor

/- Roots: a header's. -/
namespace Go.Sh
/-- Bytes in place of a chunk's first. -/
def spl8 (l : List UInt8) : Nat → UInt8 := fun j =>
  match Nat.blt j (min l.length (32 - 0)) with
  | true => (match (byteAt l (0 + j) : A) with | .u8 x => x | _ => 0)
  | false => pickN 0 (List.replicate 32 (UInt8.ofNat 0)) j
def refChunkV (n : UInt64) : R8 32 := ⟨spl8 (bytes8 n)⟩
abbrev Hd := UInt64 × UInt64 × R8 32 × R8 32 × R8 32
def lits (f : Nat → UInt8) : List A := (List.range 32).map fun i => .u8 (f i)
/-- Five rows behind one another. -/
def row5 (a b c d e : Nat → UInt8) : List A := lits a ++ (lits b ++ (lits c ++ (lits d ++ lits e)))
def hdF (a b c d e : Nat → UInt8) : Nat → A := fun j => ((row5 a b c d e)[j]?).getD (.u8 (a 0))
def hdL (a b c d e : Nat → UInt8) : List (R8 32) := cutR 32 (fun j => u8of (hdF a b c d e (0 + j))) 5
theorem lits_u8 (f : Nat → UInt8) : ∀ x ∈ lits f, isU8 x = true := by
  intro x hx
  unfold lits at hx
  obtain ⟨i, _, rfl⟩ := List.mem_map.1 hx
  rfl
theorem hdF_u8 (a b c d e : Nat → UInt8) (j : Nat) : isU8 (hdF a b c d e j) = true := by
  unfold hdF
  cases h : (row5 a b c d e)[j]? with
  | none => rfl
  | some x =>
    have hx := List.mem_of_getElem? h
    unfold row5 at hx
    simp only [List.mem_append] at hx
    rcases hx with hx | hx | hx | hx | hx <;> exact lits_u8 _ _ hx
theorem nm_hd (a b c d e : Nat → UInt8) : nm (hdL a b c d e) = [⟨elR a 0⟩, ⟨elR b 0⟩, ⟨elR c 0⟩, ⟨elR d 0⟩, ⟨elR e 0⟩] := by kernel_rfl
theorem hdL_len (a b c d e : Nat → UInt8) : (hdL a b c d e).length = 5 := cutR_len _ _ _
theorem chunk_same (n : UInt64) : elR (refChunkV n).f 0 = elR (chunkV n).f 0 := by kernel_rfl
end Go.Sh
namespace Go.Proofs.YtaloefkkllebeaaDoor
open Go Go.Sh
theorem refChunk_ok : Computes A Tryd.prog 40 (fun x : UInt64 × Unit => refChunkV x.1) := by
  refine computes_of_run (tbl := tblCh) (.cons uint_ok.row (.nil _)) Tryd.func40 (by kernel_rfl) (by kernel_rfl) 20 ?_
  rintro _ ⟨n, ⟨⟩⟩ W -
  exact ⟨fun _ _ => .keep, refChunkV n, [∀ j, j < min (bytes8 n).length (32 - 0) → ∃ x, (fun q => byteAt (B := FB) (bytes8 n) (0 + q)) j = .u8 x], by kernel_rfl, ⟨fun j _ => ⟨_, rfl⟩, trivial⟩, rfl⟩
def ofV (RV : RVT) (l : List (R8 32)) : R8 32 := (RV (lC l) (l.length : Int)).a
noncomputable def tblOf (RV : RVT) : List (Row A) := [rowOf A 53 (fun x : GA (Rt 32 × Int × Unit) => RV x.x.1.l x.x.2.1)]
theorem of_of {RV : RVT} (ht : TblOK Tryd.prog (tblOf RV)) : Computes A Tryd.prog 92 (fun x : GA (Rt 32 × Unit) => ofV RV x.x.1.l) := by
  refine computes_of_run ht Tryd.func92 (by kernel_rfl) (by kernel_rfl) 6 ?_
  rintro ⟨g, _⟩ ⟨⟨⟨l⟩, ⟨⟩⟩⟩ W ⟨hr, ⟨hg, hn⟩, _⟩
  have hG : HasRows W l g := hg
  have hN : l.length < 1048576 := hn
  have rd : Reads W.cell? g.a (rsAt (l := l)) 0 (l.length * 32) := reads_rows (n := 32) hG (by omega)
  exact ⟨fun _ _ => .keep, ofV RV l, [RoundsIn W.cell?, (lC l).length < 1048576, Reads W.cell? g.a (rsAt l) 0 (l.length * 32), lU l], by kernel_rfl, ⟨hr, by rw [lC_len]; exact hN, rd, lU_ok l, trivial⟩, rfl⟩
noncomputable def tblHd (Ch : UInt64 → R8 32) (Of : List (R8 32) → R8 32) : List (Row A) := [rowOf A 94 (fun x : UInt64 × Unit => Ch x.1), rowOf A 92 (fun x : GA (Rt 32 × Unit) => Of x.x.1.l)]
def headL (Ch : UInt64 → R8 32) (x : Hd) : List (R8 32) := hdL (Ch x.1).f (Ch x.2.1).f x.2.2.1.f x.2.2.2.1.f x.2.2.2.2.f
theorem header_of {Ch : UInt64 → R8 32} {Of : List (R8 32) → R8 32} (ht : TblOK Tryd.prog (tblHd Ch Of)) : Computes A Tryd.prog 43 (fun x : GA (Hd × Unit) => Of (headL Ch x.x.1)) := by
  refine computes_of_run ht Tryd.func43 (by kernel_rfl) (by kernel_rfl) 6 ?_
  rintro _ ⟨⟨⟨s, p, ⟨c⟩, ⟨d⟩, ⟨e⟩⟩, ⟨⟩⟩⟩ W ⟨hr, _⟩
  exact ⟨fun _ _ => .keep, Of (headL Ch (s, p, ⟨c⟩, ⟨d⟩, ⟨e⟩)), [RoundsIn W.cell?, (hdL (Ch s).f (Ch p).f c d e).length < 1048576, ∀ j, j < 5 * 32 → isU8 (hdF (Ch s).f (Ch p).f c d e (0 + j)) = true], by kernel_rfl, ⟨hr, by rw [hdL_len]; decide, fun j _ => hdF_u8 _ _ _ _ _ _, trivial⟩, rfl⟩
end Go.Proofs.YtaloefkkllebeaaDoor

/- Roots: a header's, by the reference; they are the same. -/
namespace Go.Proofs.YtaloefkkllebeaaDoor
open Go Go.Sh
def treV (Pr : R8 32 → R8 32 → R8 32) (l : List (R8 32)) : R8 32 := treeN Pr (lC l) (depQ (l.length : Int))
theorem refTree_of {Pr : R8 32 → R8 32 → R8 32} (ht : TblOK Tryd.prog (tblRR Pr)) : Computes A Tryd.prog 96 (fun x : Hs Mk × Rt 32 × Unit => treV Pr x.2.1.l) := by
  refine computes_of_run ht Tryd.func96 (by kernel_rfl) (by kernel_rfl) 6 ?_
  rintro ⟨a, g, _⟩ ⟨⟨m⟩, ⟨l⟩, ⟨⟩⟩ W ⟨ha, ⟨hg, hn⟩, _⟩
  have hG : HasRows W l g := hg
  have hN : l.length < 1048576 := hn
  have rt : ReadT W.cell? a 0 72 := by
    intro b hb j hj
    obtain rfl := Option.some.inj hb
    exact ha (0 + j) (show 0 + j < 72 by omega)
  have hd := depQ_le (l.length : Int)
  have rd : Reads W.cell? g.a (rsAt (l := l)) 0 (l.length * 32) := reads_rows (n := 32) hG (by omega)
  exact ⟨saysY [], treV Pr l, [ReadT W.cell? a 0 72, TabsAre, (lC l).length < 1048576, Reads W.cell? g.a (rsAt l) 0 (l.length * 32), lU l, (0 : Int) ≤ (depQ (l.length : Int) : Int) ∧ (depQ (l.length : Int) : Int) ≤ ((62 : Nat) : Int)], by kernel_rfl,
    ⟨rt, tabsAre, by rw [lC_len]; exact hN, rd, lU_ok l, by omega, trivial⟩, rfl⟩
noncomputable def tblRH (Ch : UInt64 → R8 32) (Tv : List (R8 32) → R8 32) : List (Row A) := [rowOf A 40 (fun x : UInt64 × Unit => Ch x.1), rowOf A 96 (fun x : Hs Mk × Rt 32 × Unit => Tv x.2.1.l)]
theorem refHeader_of {Ch : UInt64 → R8 32} {Tv : List (R8 32) → R8 32} (ht : TblOK Tryd.prog (tblRH Ch Tv)) : Computes A Tryd.prog 47 (fun x : Hs Mk × Hd × Unit => Tv (headL Ch x.2.1)) := by
  refine computes_of_run ht Tryd.func47 (by kernel_rfl) (by kernel_rfl) 6 ?_
  rintro ⟨a, _⟩ ⟨⟨m⟩, ⟨s, p, ⟨x⟩, ⟨y⟩, ⟨z⟩⟩, ⟨⟩⟩ W ⟨ha, _⟩
  have rt : ReadT W.cell? a 0 72 := by
    intro b hb j hj
    obtain rfl := Option.some.inj hb
    exact ha (0 + j) (show 0 + j < 72 by omega)
  exact ⟨fun _ _ => .keep, Tv (headL Ch (s, p, ⟨x⟩, ⟨y⟩, ⟨z⟩)), [ReadT W.cell? a 0 72, TabsAre, (hdL (Ch s).f (Ch p).f x y z).length < 1048576, ∀ j, j < 5 * 32 → isU8 (hdF (Ch s).f (Ch p).f x y z (0 + j)) = true], by kernel_rfl, ⟨rt, tabsAre, by rw [hdL_len]; decide, fun j _ => hdF_u8 _ _ _ _ _ _, trivial⟩, rfl⟩
/-- A header's root. -/
def headR (Pr : R8 32 → R8 32 → R8 32) (x : Hd) : R8 32 := ofV (rootV Pr) (headL chunkV x)
theorem head_same (Pr : R8 32 → R8 32 → R8 32) (x : Hd) : treV Pr (headL refChunkV x) = headR Pr x := by
  obtain ⟨s, p, ⟨a⟩, ⟨b⟩, ⟨c⟩⟩ := x
  have e : nm (headL refChunkV (s, p, ⟨a⟩, ⟨b⟩, ⟨c⟩)) = nm (headL chunkV (s, p, ⟨a⟩, ⟨b⟩, ⟨c⟩)) := by
    unfold headL
    simp only
    rw [nm_hd, nm_hd, chunk_same, chunk_same]
  have l1 : (headL refChunkV (s, p, ⟨a⟩, ⟨b⟩, ⟨c⟩)).length = 5 := hdL_len _ _ _ _ _
  have l2 : (headL chunkV (s, p, ⟨a⟩, ⟨b⟩, ⟨c⟩)).length = 5 := hdL_len _ _ _ _ _
  have em : maxI (((5 : Nat) : Int)) = ((5 : Nat) : Int) := by unfold maxI extI; simp
  unfold treV headR ofV rootV dR treeN
  rw [l1, l2, lC_len, l2, nm_lC, nm_lC, e, em, decide_eq_false (by omega)]
theorem of_ok : Computes A Tryd.prog 92 (fun x : GA (Rt 32 × Unit) => ofV (rootV pairR8) x.x.1.l) := of_of (.cons root_ok.row (.nil _))
theorem header_ok : Computes A Tryd.prog 43 (fun x : GA (Hd × Unit) => headR pairR8 x.x.1) := header_of (Ch := chunkV) (Of := ofV (rootV pairR8)) (.cons chunk_ok.row (.cons of_ok.row (.nil _)))
theorem refTree_ok : Computes A Tryd.prog 96 (fun x : Hs Mk × Rt 32 × Unit => treV pairR8 x.2.1.l) := refTree_of (.cons refDepth_ok.row (.cons tree_ok.row (.nil _)))
theorem refHeader_ok : Computes A Tryd.prog 47 (fun x : Hs Mk × Hd × Unit => headR pairR8 x.2.1) := by
  have h := refHeader_of (Ch := refChunkV) (Tv := treV pairR8) (.cons refChunk_ok.row (.cons refTree_ok.row (.nil _)))
  have e : (fun x : Hs Mk × Hd × Unit => treV pairR8 (headL refChunkV x.2.1)) = fun x => headR pairR8 x.2.1 := by
    funext x
    exact head_same pairR8 x.2.1
  rw [e] at h
  exact h
end Go.Proofs.YtaloefkkllebeaaDoor
/- Roots: a key's. -/
namespace Go.Proofs.YtaloefkkllebeaaDoor
open Go Go.Sh
noncomputable def packR : Row A := rowIn Tryd.prog [] [] (fun _ _ => .keep) 20 93 Tryd.f93
theorem packR_ok : RowOK Tryd.prog packR := rowIn_ok (TblOK.nil _) (ITblOK.nil _) _ 20 Tryd.func93 (by kernel_rfl) (by kernel_rfl)
noncomputable def tblKe (Of : List (R8 32) → R8 32) : List (Row A) := [packR, rowOf A 92 (fun x : GA (Rt 32 × Unit) => Of x.x.1.l)]
def k2L (f : Nat → UInt8) : List A := ((List.range 16).map fun i => .u8 (f (32 + i))) ++ List.replicate 16 (.u8 (UInt8.ofNat 0))
/-- A key's two chunks. -/
def keF (f : Nat → UInt8) : Nat → A := catF (fun q => (fun j => ((lits f)[j]?).getD (.u8 (f 0))) (0 + q)) (timesN 1 (31 + 1)) (fun j => ((k2L f)[j]?).getD (.u8 (f 32))) 0
def keyL (f : Nat → UInt8) : List (R8 32) := cutR 32 (fun j => u8of (keF f (0 + j))) (1 + 1)
theorem keyL_len (f : Nat → UInt8) : (keyL f).length = 2 := cutR_len _ _ _
theorem keF_u8 (f : Nat → UInt8) (j : Nat) : isU8 (keF f j) = true := by
  unfold keF
  simp only [catF]
  split
  · cases h : (lits f)[0 + j]? with
    | none => rfl
    | some x => exact lits_u8 f x (List.mem_of_getElem? h)
  · generalize 0 + (j - timesN 1 (31 + 1)) = i
    cases h : (k2L f)[i]? with
    | none => rfl
    | some x =>
      have hx := List.mem_of_getElem? h
      unfold k2L at hx
      rcases List.mem_append.1 hx with hx | hx
      · obtain ⟨i, _, rfl⟩ := List.mem_map.1 hx
        rfl
      · rw [List.mem_replicate] at hx
        rw [hx.2]
        rfl
theorem key_of {Of : List (R8 32) → R8 32} (ht : TblOK Tryd.prog (tblKe Of)) : Computes A Tryd.prog 42 (fun x : GA (R8 48 × Unit) => Of (keyL x.x.1.f)) := by
  refine computes_of_run ht Tryd.func42 (by kernel_rfl) (by kernel_rfl) 20 ?_
  rintro _ ⟨⟨⟨f⟩, ⟨⟩⟩⟩ W ⟨hr, _⟩
  exact ⟨fun _ _ => .keep, Of (keyL f), [RoundsIn W.cell?, (keyL f).length < 1048576, ∀ j, j < (1 + 1) * 32 → isU8 (keF f (0 + j)) = true, 1 = 1 ∧ timesN 1 (31 + 1) = timesN 1 (31 + 1) ∧ Sh.Bears (1 + 1) 32, Sh.Bears 1 32], by kernel_rfl,
    ⟨hr, by rw [keyL_len]; decide, fun j _ => keF_u8 f _, ⟨rfl, rfl, by unfold Sh.Bears maxLen; omega⟩, by unfold Sh.Bears maxLen; omega, trivial⟩, rfl⟩
theorem key_ok : Computes A Tryd.prog 42 (fun x : GA (R8 48 × Unit) => ofV (rootV pairR8) (keyL x.x.1.f)) := key_of (.cons packR_ok (.cons of_ok.row (.nil _)))
end Go.Proofs.YtaloefkkllebeaaDoor
/- Roots: a list's. -/
namespace Go.Sh
/-- So many rows, copied behind one another. -/
def liF (l : List (R8 32)) : Nat → Nat → A
  | 0 => fun _ => Atom.dummy
  | i + 1 => catF (liF l i) (timesN i (31 + 1)) (cells32 (elR (rsB l) (i * 32))) 0
theorem liF_u8 (l : List (R8 32)) : ∀ (k i : Nat), isU8 (liF l k i) = true
  | 0, i => rfl
  | k + 1, i => by
    simp only [liF, catF]
    split
    · exact liF_u8 l k i
    · rw [cells32_u8]; rfl
theorem liF_at (l : List (R8 32)) : ∀ (N k j : Nat), k < N → j < 32 → u8of (liF l N (k * 32 + j)) = elL l k j
  | N + 1, k, j, hk, hj => by
    simp only [liF, catF, timesN_eq]
    by_cases h : k * 32 + j < N * (31 + 1)
    · have hb : (k * 32 + j).blt (N * (31 + 1)) = true := by rw [Nat.blt_eq]; exact h
      rw [hb]
      exact liF_at l N k j (by omega) hj
    · have hb : (k * 32 + j).blt (N * (31 + 1)) = false := by rw [Bool.eq_false_iff, ne_eq, Nat.blt_eq]; exact h
      rw [hb]
      obtain rfl : k = N := by omega
      have e : 0 + (k * 32 + j - k * (31 + 1)) = j := by omega
      show u8of (cells32 _ (0 + (k * 32 + j - k * (31 + 1)))) = _
      rw [e, cells32_at _ _ hj]
      rfl
/-- The rows of a list, copied. -/
def lsL (l : List (R8 32)) : List (R8 32) := cutR 32 (fun j => u8of (liF l l.length (0 + j))) l.length
theorem lsL_len (l : List (R8 32)) : (lsL l).length = l.length := cutR_len _ _ _
theorem nm_lsL (l : List (R8 32)) : nm (lsL l) = nm l := by
  have e : ∀ k, k < l.length → elL (lsL l) k = elL l k := by
    intro k hk
    unfold elL
    refine Eq.trans (elR_congr (G := elL l k) (k := 0) (fun j hj => ?_)) (elR_elR _ _)
    unfold lsL
    rw [cutR_at _ _ _ _ (by omega), Nat.zero_add, Nat.zero_add, liF_at l _ _ _ hk hj]
  unfold nm
  rw [lsL_len]
  exact List.map_congr_left fun k hk => by rw [e k (List.mem_range.1 hk)]
end Go.Sh
namespace Go.Proofs.YtaloefkkllebeaaDoor
open Go Go.Sh
noncomputable def tblLi (Of : List (R8 32) → R8 32) : List (Row A) := [rowOf A 92 (fun x : GA (Rt 32 × Unit) => Of x.x.1.l)]
def liS (g : Spot) (l : List (R8 32)) (f : Nat → A) (i : Nat) : St A :=
  ⟨slots 0 19 [(0, .val false [rsE g l]), (2, .val false [.p 0 0]), (3, .val false [.gr f 1 i i 32]), (6, .val false [rsE g l]), (7, .val false [.n .i64 (l.length : Int)]), (8, .val false [.n .i64 (i : Int)])],
    [some ⟨zer8 32, 46, false⟩, some ⟨[.mk i (c32 i)], 25, false⟩], 0, [], []⟩
def orLi : Nat → Nat → Dec := fun _ t => match Nat.beq t 3 with | true => .grow 25 32 | false => .keep
theorem list_of {Of : List (R8 32) → R8 32} (ht : TblOK Tryd.prog (tblLi Of)) : Computes A Tryd.prog 95 (fun x : GA (Rt 32 × Unit) => Of (lsL x.x.1.l)) := by
  refine computes_of_runW ht (ITblOK.nil _) Tryd.func95 (by kernel_rfl) (by kernel_rfl) 6 ?_
  rintro ⟨g, _⟩ ⟨⟨⟨l⟩, ⟨⟩⟩⟩ W ⟨hr, ⟨hg, hn⟩, _⟩
  have hG : HasRows W l g := hg
  have hN : l.length < 1048576 := hn
  have hs : SoundFor Tryd.prog W.cell? [] (.loop (loopNo Tryd.f95 3)) (liS g l (liF l 0) 0) (.exit 0) (liS g l (liF l l.length) l.length) := fun c e1 e2 e3 e4 =>
    loopAt (c := c) (inv := fun i => liS g l (liF l i) i) (N := l.length) (by simp)
      (fun i hi => by
        have gr : i = i ∧ timesN i (31 + 1) = c32 i ∧ Sh.Bears (i + 1) 32 := ⟨rfl, by rw [timesN_eq, c32_eq]; omega, by unfold Sh.Bears maxLen; omega⟩
        have rd : Reads W.cell? g.a (rsAt (l := l)) (i * 32) 32 := reads_rows (n := 32) hG (by omega)
        show Round c _ _ _ (liS g l (catF (liF l i) (timesN i (31 + 1)) (cells32 (elR (rsB l) (i * 32))) 0) (i + 1))
        generalize liF l i = f
        exact Round.of0 ht (saysY []) 6 [WrapI ((i : Int) + 1), i = i ∧ timesN i (31 + 1) = c32 i ∧ Sh.Bears (i + 1) 32, Reads W.cell? g.a (rsAt l) (i * 32) 32, IX (i : Int) l.length, decide ((i : Int) < (l.length : Int)) = true] (by kernel_rfl)
          ⟨wI (by omega) (by omega), gr, rd, ⟨by omega, by omega⟩, decide_eq_true (by omega), trivial⟩ (by kernel_rfl) (by kernel_rfl) e1 e2 e3 e4)
      (by
        generalize liF l l.length = f
        exact Round.of0 ht (saysY [(9, false)]) 6 [decide ((l.length : Int) < (l.length : Int)) = false] (by kernel_rfl) ⟨decide_eq_false (by omega), trivial⟩ (by kernel_rfl) (by kernel_rfl) e1 e2 e3 e4)
  have hu := liF_u8 l l.length
  have hlen := lsL_len l
  show ∃ orc lp y vc, _ ∧ _ ∧ y = Of (lsL l) ∧ _
  unfold lsL at hlen ⊢
  revert hs hu hlen
  generalize liF l l.length = f
  intro hs hu hlen
  refine ⟨orLi, lps [(3, liS g l (fun _ => Atom.dummy) 0, .exit 0, liS g l f l.length)], Of (cutR 32 (fun j => u8of (f (0 + j))) l.length), [RoundsIn W.cell?, (cutR 32 (fun j => u8of (f (0 + j))) l.length).length < 1048576, ∀ j, j < l.length * 32 → isU8 (f (0 + j)) = true, ToldIs (liS g l (fun _ => Atom.dummy) 0)], by kernel_rfl,
    ⟨hr, by rw [cutR_len]; exact hN, fun j _ => hu _, toldIs _, trivial⟩, rfl, fun body hb => ?_⟩
  obtain rfl := Option.some.inj hb
  exact LoopsFor.cons (by kernel_rfl) hs LoopsFor.nil
theorem list_ok : Computes A Tryd.prog 95 (fun x : GA (Rt 32 × Unit) => ofV (rootV pairR8) (lsL x.x.1.l)) := list_of (.cons of_ok.row (.nil _))
end Go.Proofs.YtaloefkkllebeaaDoor
/- Roots: a committee's, as an argument. -/
namespace Go.Sh
/-- A committee: its keys, their sum. -/
structure Ck where
  keys : List (R8 48)
  sum : R8 48
def isSl : SV A → Bool
  | .e .. => true
  | .kn .. => true
  | .gr .. => true
  | .v (.slice none 0 0) => true
  | _ => false
theorem sl_one {β : Adr} {s : SV A} {vs : List Value} (hs : isSl s = true) (h : s.Is β vs) : ∃ u, vs = [u] := by
  unfold isSl at hs
  split at hs
  · rename_i a f i n c
    have h' : extIs a i n c vs := h
    cases a with
    | none => obtain ⟨_, _, e⟩ := h'; exact ⟨_, e⟩
    | some b => obtain ⟨_, _, _, e⟩ := h'; exact ⟨_, e⟩
  · have h' : knownIs β _ _ _ _ vs := h
    rcases h' with ⟨_, e⟩ | ⟨_, _, e, _⟩
    · exact ⟨_, e⟩
    · exact ⟨_, e⟩
  · have h' : knownIs β _ 0 _ _ vs := growsIs.known h
    rcases h' with ⟨_, e⟩ | ⟨_, _, e, _⟩
    · exact ⟨_, e⟩
    · exact ⟨_, e⟩
  · exact ⟨_, h.1⟩
  · cases hs
def ckParse (old : Addr → Option Value) (m : Mem A) : TV A → Option (Ck × List Prop)
  | .val true (s :: cells) =>
    match isSl s with
    | true => (match rsParse 48 old m (asKn (.val false [s])), Rep.parseV (A := A) (T := R8 48) true cells with
      | some (b, vc), some r => some (⟨b.l, r⟩, (b.l.length < 1048576) :: vc)
      | _, _ => none)
    | false => none
  | _ => none
instance : Arg A Ck where
  G := Spot
  good W g x := HasRows W x.keys g ∧ x.keys.length < 1048576
  tv g x := .val true [.e g.a (rsAt x.keys) 0 x.keys.length g.c, .a (.w8 48 x.sum.f)]
  val g x := .agg (spotVal x.keys.length g :: Rep.vals A x.sum).toArray
  is := by
    intro W g x β h
    obtain ⟨h1, _⟩ := h
    have h2 : LIs β [.e g.a (rsAt x.keys) 0 x.keys.length g.c] [spotVal x.keys.length g] := Arg.is (A := A) (T := Rs 48) (x := ⟨x.keys⟩) β h1
    refine ⟨spotVal x.keys.length g :: Rep.vals A x.sum, ⟨[spotVal x.keys.length g], Rep.vals A x.sum, LIs.single h2, LIs.atom rfl, rfl⟩, rfl⟩
  parse old m t := ckParse old m t
  ok := by
    intro c X W0 W β m t x vc v h hvc hm e
    unfold ckParse at h
    split at h
    · rename_i s cells
      split at h
      · rename_i hs
        split at h
        · rename_i b vc' r hb hr
          simp at h
          obtain ⟨rfl, rfl⟩ := h
          obtain ⟨vs, ⟨x1, y1, h1, h2, rfl⟩, rfl⟩ := e
          obtain ⟨u, rfl⟩ := sl_one hs h1
          obtain ⟨g, k1, k2⟩ := Arg.ok (A := A) (T := Rs 48) (c := c) (m := m) (t := .val false [s]) hb (fun p hp => hvc p (by simp [hp])) hm (LIs.of_single h1)
          have k3 := Rep.parseV_ok (A := A) hr (β := β) (v := .agg y1.toArray) ⟨y1, h2, rfl⟩
          refine ⟨g, ⟨k1, hvc _ (by simp)⟩, ?_⟩
          have k4 : y1 = Rep.vals A r := by
            have k5 : Value.agg y1.toArray = .agg (Rep.vals A r).toArray := k3
            simpa using k5
          have k6 : u = spotVal b.l.length g := k2
          rw [k4, k6]
          rfl
        · cases h
      · cases h
    · cases h
end Go.Sh
/- Roots: a committee's. -/
namespace Go.Sh
/-- Key i of a row of them. -/
def el48 (l : List (R8 48)) (i : Nat) : Nat → UInt8 := pickN 0 (extR (rsB l) (i * 48) 48)
/-- So many keys' roots. -/
def coF (Ke : R8 48 → R8 32) (l : List (R8 48)) : Nat → Nat → A
  | 0 => fun _ => Atom.dummy
  | i + 1 => catF (coF Ke l i) (timesN i (31 + 1)) (cells32 (Ke ⟨el48 l i⟩).f) 0
theorem coF_u8 (Ke : R8 48 → R8 32) (l : List (R8 48)) : ∀ (k i : Nat), isU8 (coF Ke l k i) = true
  | 0, i => rfl
  | k + 1, i => by
    simp only [coF, catF]
    split
    · exact coF_u8 Ke l k i
    · rw [cells32_u8]; rfl
def coL (Ke : R8 48 → R8 32) (l : List (R8 48)) : List (R8 32) := cutR 32 (fun j => u8of (coF Ke l l.length (0 + j))) l.length
theorem coL_len (Ke : R8 48 → R8 32) (l : List (R8 48)) : (coL Ke l).length = l.length := cutR_len _ _ _
/-- Two rows behind one another. -/
def twF (a b : Nat → UInt8) : Nat → A := fun j => ((lits a ++ lits b)[j]?).getD (.u8 (a 0))
def twL (a b : Nat → UInt8) : List (R8 32) := cutR 32 (fun j => u8of (twF a b (0 + j))) 2
theorem twL_len (a b : Nat → UInt8) : (twL a b).length = 2 := cutR_len _ _ _
theorem twF_u8 (a b : Nat → UInt8) (j : Nat) : isU8 (twF a b j) = true := by
  unfold twF
  cases h : (lits a ++ lits b)[j]? with
  | none => rfl
  | some x =>
    have hx := List.mem_of_getElem? h
    rcases List.mem_append.1 hx with hx | hx <;> exact lits_u8 _ _ hx
end Go.Sh
namespace Go.Proofs.YtaloefkkllebeaaDoor
open Go Go.Sh
noncomputable def tblCo (Ke : R8 48 → R8 32) (Ls Of : List (R8 32) → R8 32) : List (Row A) :=
  [rowOf A 42 (fun x : GA (R8 48 × Unit) => Ke x.x.1), rowOf A 95 (fun x : GA (Rt 32 × Unit) => Ls x.x.1.l), rowOf A 92 (fun x : GA (Rt 32 × Unit) => Of x.x.1.l)]
def rs48 (g : Spot) (l : List (R8 48)) : SV A := .e g.a (rsAt l) 0 l.length g.c
def coS (g : Spot) (l : List (R8 48)) (s : Nat → UInt8) (f : Nat → A) (i : Nat) : St A :=
  ⟨slots 0 26 [(1, .val false [.p 0 0]), (2, .val false [.p 1 0]), (3, .val false [.gr f 2 i i 32]), (7, .val false [rs48 g l]), (8, .val false [.n .i64 (l.length : Int)]), (9, .val false [.n .i64 (i : Int)])],
    [some ⟨[rs48 g l, .a (.w8 48 s)], 53, false⟩, some ⟨zer8 32, 46, false⟩, some ⟨[.mk i (c32 i)], 46, false⟩], 0, [], []⟩
def orCo : Nat → Nat → Dec := fun _ t => match Nat.beq t 3 with | true => .grow 46 32 | false => .keep
theorem committee_of {Ke : R8 48 → R8 32} {Ls Of : List (R8 32) → R8 32} (ht : TblOK Tryd.prog (tblCo Ke Ls Of)) : Computes A Tryd.prog 44 (fun x : GA (Ck × Unit) => Of (twL (Ls (coL Ke x.x.1.keys)).f (Ke x.x.1.sum).f)) := by
  refine computes_of_runW ht (ITblOK.nil _) Tryd.func44 (by kernel_rfl) (by kernel_rfl) 6 ?_
  rintro ⟨g, _⟩ ⟨⟨⟨l, ⟨s⟩⟩, ⟨⟩⟩⟩ W ⟨hr, ⟨hg, hn⟩, _⟩
  have hG : HasRows W l g := hg
  have hN : l.length < 1048576 := hn
  have hs : SoundFor Tryd.prog W.cell? [] (.loop (loopNo Tryd.f44 3)) (coS g l s (coF Ke l 0) 0) (.exit 0) (coS g l s (coF Ke l l.length) l.length) := fun c e1 e2 e3 e4 =>
    loopAt (c := c) (inv := fun i => coS g l s (coF Ke l i) i) (N := l.length) (by simp)
      (fun i hi => by
        have gr : i = i ∧ timesN i (31 + 1) = c32 i ∧ Sh.Bears (i + 1) 32 := ⟨rfl, by rw [timesN_eq, c32_eq]; omega, by unfold Sh.Bears maxLen; omega⟩
        have rd : Reads W.cell? g.a (rsAt (l := l)) (i * 48) 48 := reads_rows (n := 48) hG (by omega)
        show Round c _ _ _ (coS g l s (catF (coF Ke l i) (timesN i (31 + 1)) (cells32 (Ke ⟨el48 l i⟩).f) 0) (i + 1))
        generalize coF Ke l i = f
        exact Round.of0 ht (saysY []) 6 [WrapI ((i : Int) + 1), i = i ∧ timesN i (31 + 1) = c32 i ∧ Sh.Bears (i + 1) 32, RoundsIn W.cell?, Reads W.cell? g.a (rsAt l) (i * 48) 48, IX (i : Int) l.length, decide ((i : Int) < (l.length : Int)) = true] (by kernel_rfl)
          ⟨wI (by omega) (by omega), gr, hr, rd, ⟨by omega, by omega⟩, decide_eq_true (by omega), trivial⟩ (by kernel_rfl) (by kernel_rfl) e1 e2 e3 e4)
      (by
        generalize coF Ke l l.length = f
        exact Round.of0 ht (saysY [(10, false)]) 6 [decide ((l.length : Int) < (l.length : Int)) = false] (by kernel_rfl) ⟨decide_eq_false (by omega), trivial⟩ (by kernel_rfl) (by kernel_rfl) e1 e2 e3 e4)
  have hu := coF_u8 Ke l l.length
  show ∃ orc lp y vc, _ ∧ _ ∧ y = Of (twL (Ls (coL Ke l)).f (Ke ⟨s⟩).f) ∧ _
  unfold coL
  revert hs hu
  generalize coF Ke l l.length = f
  intro hs hu
  refine ⟨orCo, lps [(3, coS g l s (fun _ => Atom.dummy) 0, .exit 0, coS g l s f l.length)], Of (twL (Ls (cutR 32 (fun j => u8of (f (0 + j))) l.length)).f (Ke ⟨s⟩).f),
    [RoundsIn W.cell?, (twL (Ls (cutR 32 (fun j => u8of (f (0 + j))) l.length)).f (Ke ⟨s⟩).f).length < 1048576, ∀ j, j < 2 * 32 → isU8 (twF (Ls (cutR 32 (fun j => u8of (f (0 + j))) l.length)).f (Ke ⟨s⟩).f (0 + j)) = true, RoundsIn W.cell?, RoundsIn W.cell?, (cutR 32 (fun j => u8of (f (0 + j))) l.length).length < 1048576, ∀ j, j < l.length * 32 → isU8 (f (0 + j)) = true, ToldIs (coS g l s (fun _ => Atom.dummy) 0)], by kernel_rfl,
    ⟨hr, by rw [twL_len]; decide, fun j _ => twF_u8 _ _ _, hr, hr, by rw [cutR_len]; exact hN, fun j _ => hu _, toldIs _, trivial⟩, rfl, fun body hb => ?_⟩
  obtain rfl := Option.some.inj hb
  exact LoopsFor.cons (by kernel_rfl) hs LoopsFor.nil
def keyV (Pr : R8 32 → R8 32 → R8 32) (k : R8 48) : R8 32 := ofV (rootV Pr) (keyL k.f)
def comV (Pr : R8 32 → R8 32 → R8 32) (x : Ck) : R8 32 := ofV (rootV Pr) (twL (ofV (rootV Pr) (lsL (coL (keyV Pr) x.keys))).f (keyV Pr x.sum).f)
theorem committee_ok : Computes A Tryd.prog 44 (fun x : GA (Ck × Unit) => comV pairR8 x.x.1) :=
  committee_of (Ke := keyV pairR8) (Ls := fun l => ofV (rootV pairR8) (lsL l)) (Of := ofV (rootV pairR8)) (.cons key_ok.row (.cons list_ok.row (.cons of_ok.row (.nil _))))
end Go.Proofs.YtaloefkkllebeaaDoor
