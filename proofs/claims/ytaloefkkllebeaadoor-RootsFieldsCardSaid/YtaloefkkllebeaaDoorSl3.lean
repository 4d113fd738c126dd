/- Roots: a header's, by the reference; they are the same. -/
import Derived.Test.YtaloefkkllebeaaDoorSl2
set_option linter.unusedVariables false
set_option linter.unusedSimpArgs false
set_option linter.unusedSectionVars false
set_option maxRecDepth 100000
namespace Go.Proofs.YtaloefkkllebeaaDoor
open Go Go.Sh
def treV (Pr : R8 32 → R8 32 → R8 32) (l : List (R8 32)) : R8 32 := treeN Pr (lC l) (depQ (l.length : Int))
theorem refTree_of {Pr : R8 32 → R8 32 → R8 32} (ht : TblOK Tryd.prog (tblRR Pr)) : Computes A Tryd.prog 96 (fun x : Hs Mk × Rt 32 × Unit => treV Pr x.2.1.l) := by
  refine computes_of_run ht Tryd.func96 (by kernel_rfl) (by kernel_rfl) 6 ?_
  rintro ⟨a, g, _⟩ ⟨⟨m⟩, ⟨l⟩, ⟨⟩⟩ W ⟨ha, ⟨hg, hn⟩, _⟩
  have hG : HasRows W l g := hg
  have hN : l.length < 1048576 := hn
  have rt : ReadT W.cell? a 0 72 := by
    intro b hb j hj
    obtain rfl := Option.some.inj hb
    exact ha (0 + j) (show 0 + j < 72 by omega)
  have hd := depQ_le (l.length : Int)
  have rd : Reads W.cell? g.a (rsAt (l := l)) 0 (l.length * 32) := reads_rows (n := 32) hG (by omega)
  exact ⟨saysY [], treV Pr l, [ReadT W.cell? a 0 72, TabsAre, (lC l).length < 1048576, Reads W.cell? g.a (rsAt l) 0 (l.length * 32), lU l, (0 : Int) ≤ (depQ (l.length : Int) : Int) ∧ (depQ (l.length : Int) : Int) ≤ ((62 : Nat) : Int)], by kernel_rfl,
    ⟨rt, tabsAre, by rw [lC_len]; exact hN, rd, lU_ok l, by omega, trivial⟩, rfl⟩
noncomputable def tblRH (Ch : UInt64 → R8 32) (Tv : List (R8 32) → R8 32) : List (Row A) := [rowOf A 40 (fun x : UInt64 × Unit => Ch x.1), rowOf A 96 (fun x : Hs Mk × Rt 32 × Unit => Tv x.2.1.l)]
theorem refHeader_of {Ch : UInt64 → R8 32} {Tv : List (R8 32) → R8 32} (ht : TblOK Tryd.prog (tblRH Ch Tv)) : Computes A Tryd.prog 47 (fun x : Hs Mk × Hd × Unit => Tv (headL Ch x.2.1)) := by
  refine computes_of_run ht Tryd.func47 (by kernel_rfl) (by kernel_rfl) 6 ?_
  rintro ⟨a, _⟩ ⟨⟨m⟩, ⟨s, p, ⟨x⟩, ⟨y⟩, ⟨z⟩⟩, ⟨⟩⟩ W ⟨ha, _⟩
  have rt : ReadT W.cell? a 0 72 := by
    intro b hb j hj
    obtain rfl := Option.some.inj hb
    exact ha (0 + j) (show 0 + j < 72 by omega)
  exact ⟨fun _ _ => .keep, Tv (headL Ch (s, p, ⟨x⟩, ⟨y⟩, ⟨z⟩)), [ReadT W.cell? a 0 72, TabsAre, (hdL (Ch s).f (Ch p).f x y z).length < 1048576, ∀ j, j < 5 * 32 → isU8 (hdF (Ch s).f (Ch p).f x y z (0 + j)) = true], by kernel_rfl, ⟨rt, tabsAre, by rw [hdL_len]; decide, fun j _ => hdF_u8 _ _ _ _ _ _, trivial⟩, rfl⟩
/-- A header's root. -/
def headR (Pr : R8 32 → R8 32 → R8 32) (x : Hd) : R8 32 := ofV (rootV Pr) (headL chunkV x)
theorem head_same (Pr : R8 32 → R8 32 → R8 32) (x : Hd) : treV Pr (headL refChunkV x) = headR Pr x := by
  obtain ⟨s, p, ⟨a⟩, ⟨b⟩, ⟨c⟩⟩ := x
  have e : nm (headL refChunkV (s, p, ⟨a⟩, ⟨b⟩, ⟨c⟩)) = nm (headL chunkV (s, p, ⟨a⟩, ⟨b⟩, ⟨c⟩)) := by
    unfold headL
    simp only
    rw [nm_hd, nm_hd, chunk_same, chunk_same]
  have l1 : (headL refChunkV (s, p, ⟨a⟩, ⟨b⟩, ⟨c⟩)).length = 5 := hdL_len _ _ _ _ _
  have l2 : (headL chunkV (s, p, ⟨a⟩, ⟨b⟩, ⟨c⟩)).length = 5 := hdL_len _ _ _ _ _
  have em : maxI (((5 : Nat) : Int)) = ((5 : Nat) : Int) := by unfold maxI extI; simp
  unfold treV headR ofV rootV dR treeN
  rw [l1, l2, lC_len, l2, nm_lC, nm_lC, e, em, decide_eq_false (by omega)]
theorem of_ok : Computes A Tryd.prog 92 (fun x : GA (Rt 32 × Unit) => ofV (rootV pairR8) x.x.1.l) := of_of (.cons root_ok.row (.nil _))
theorem header_ok : Computes A Tryd.prog 43 (fun x : GA (Hd × Unit) => headR pairR8 x.x.1) := header_of (Ch := chunkV) (Of := ofV (rootV pairR8)) (.cons chunk_ok.row (.cons of_ok.row (.nil _)))
theorem refTree_ok : Computes A Tryd.prog 96 (fun x : Hs Mk × Rt 32 × Unit => treV pairR8 x.2.1.l) := refTree_of (.cons refDepth_ok.row (.cons tree_ok.row (.nil _)))
theorem refHeader_ok : Computes A Tryd.prog 47 (fun x : Hs Mk × Hd × Unit => headR pairR8 x.2.1) := by
  have h := refHeader_of (Ch := refChunkV) (Tv := treV pairR8) (.cons refChunk_ok.row (.cons refTree_ok.row (.nil _)))
  have e : (fun x : Hs Mk × Hd × Unit => treV pairR8 (headL refChunkV x.2.1)) = fun x => headR pairR8 x.2.1 := by
    funext x
    exact head_same pairR8 x.2.1
  rw [e] at h
  exact h
end Go.Proofs.YtaloefkkllebeaaDoor
/- Roots: a key's. -/
namespace Go.Proofs.YtaloefkkllebeaaDoor
open Go Go.Sh
noncomputable def packR : Row A := rowIn Tryd.prog [] [] (fun _ _ => .keep) 20 93 Tryd.f93
theorem packR_ok : RowOK Tryd.prog packR := rowIn_ok (TblOK.nil _) (ITblOK.nil _) _ 20 Tryd.func93 (by kernel_rfl) (by kernel_rfl)
noncomputable def tblKe (Of : List (R8 32) → R8 32) : List (Row A) := [packR, rowOf A 92 (fun x : GA (Rt 32 × Unit) => Of x.x.1.l)]
def k2L (f : Nat → UInt8) : List A := ((List.range 16).map fun i => .u8 (f (32 + i))) ++ List.replicate 16 (.u8 (UInt8.ofNat 0))
/-- A key's two chunks. -/
def keF (f : Nat → UInt8) : Nat → A := catF (fun q => (fun j => ((lits f)[j]?).getD (.u8 (f 0))) (0 + q)) (timesN 1 (31 + 1)) (fun j => ((k2L f)[j]?).getD (.u8 (f 32))) 0
def keyL (f : Nat → UInt8) : List (R8 32) := cutR 32 (fun j => u8of (keF f (0 + j))) (1 + 1)
theorem keyL_len (f : Nat → UInt8) : (keyL f).length = 2 := cutR_len _ _ _
theorem keF_u8 (f : Nat → UInt8) (j : Nat) : isU8 (keF f j) = true := by
  unfold keF
  simp only [catF]
  split
  · cases h : (lits f)[0 + j]? with
    | none => rfl
    | some x => exact lits_u8 f x (List.mem_of_getElem? h)
  · generalize 0 + (j - timesN 1 (31 + 1)) = i
    cases h : (k2L f)[i]? with
    | none => rfl
    | some x =>
      have hx := List.mem_of_getElem? h
      unfold k2L at hx
      rcases List.mem_append.1 hx with hx | hx
      · obtain ⟨i, _, rfl⟩ := List.mem_map.1 hx
        rfl
      · rw [List.mem_replicate] at hx
        rw [hx.2]
        rfl
theorem key_of {Of : List (R8 32) → R8 32} (ht : TblOK Tryd.prog (tblKe Of)) : Computes A Tryd.prog 42 (fun x : GA (R8 48 × Unit) => Of (keyL x.x.1.f)) := by
  refine computes_of_run ht Tryd.func42 (by kernel_rfl) (by kernel_rfl) 20 ?_
  rintro _ ⟨⟨⟨f⟩, ⟨⟩⟩⟩ W ⟨hr, _⟩
  exact ⟨fun _ _ => .keep, Of (keyL f), [RoundsIn W.cell?, (keyL f).length < 1048576, ∀ j, j < (1 + 1) * 32 → isU8 (keF f (0 + j)) = true, 1 = 1 ∧ timesN 1 (31 + 1) = timesN 1 (31 + 1) ∧ Sh.Bears (1 + 1) 32, Sh.Bears 1 32], by kernel_rfl,
    ⟨hr, by rw [keyL_len]; decide, fun j _ => keF_u8 f _, ⟨rfl, rfl, by unfold Sh.Bears maxLen; omega⟩, by unfold Sh.Bears maxLen; omega, trivial⟩, rfl⟩
theorem key_ok : Computes A Tryd.prog 42 (fun x : GA (R8 48 × Unit) => ofV (rootV pairR8) (keyL x.x.1.f)) := key_of (.cons packR_ok (.cons of_ok.row (.nil _)))
end Go.Proofs.YtaloefkkllebeaaDoor
/- Roots: a list's. -/
namespace Go.Sh
/-- So many rows, copied behind one another. -/
def liF (l : List (R8 32)) : Nat → Nat → A
  | 0 => fun _ => Atom.dummy
  | i + 1 => catF (liF l i) (timesN i (31 + 1)) (cells32 (elR (rsB l) (i * 32))) 0
theorem liF_u8 (l : List (R8 32)) : ∀ (k i : Nat), isU8 (liF l k i) = true
  | 0, i => rfl
  | k + 1, i => by
    simp only [liF, catF]
    split
    · exact liF_u8 l k i
    · rw [cells32_u8]; rfl
theorem liF_at (l : List (R8 32)) : ∀ (N k j : Nat), k < N → j < 32 → u8of (liF l N (k * 32 + j)) = elL l k j
  | N + 1, k, j, hk, hj => by
    simp only [liF, catF, timesN_eq]
    by_cases h : k * 32 + j < N * (31 + 1)
    · have hb : (k * 32 + j).blt (N * (31 + 1)) = true := by rw [Nat.blt_eq]; exact h
      rw [hb]
      exact liF_at l N k j (by omega) hj
    · have hb : (k * 32 + j).blt (N * (31 + 1)) = false := by rw [Bool.eq_false_iff, ne_eq, Nat.blt_eq]; exact h
      rw [hb]
      obtain rfl : k = N := by omega
      have e : 0 + (k * 32 + j - k * (31 + 1)) = j := by omega
      show u8of (cells32 _ (0 + (k * 32 + j - k * (31 + 1)))) = _
      rw [e, cells32_at _ _ hj]
      rfl
/-- The rows of a list, copied. -/
def lsL (l : List (R8 32)) : List (R8 32) := cutR 32 (fun j => u8of (liF l l.length (0 + j))) l.length
theorem lsL_len (l : List (R8 32)) : (lsL l).length = l.length := cutR_len _ _ _
theorem nm_lsL (l : List (R8 32)) : nm (lsL l) = nm l := by
  have e : ∀ k, k < l.length → elL (lsL l) k = elL l k := by
    intro k hk
    unfold elL
    refine Eq.trans (elR_congr (G := elL l k) (k := 0) (fun j hj => ?_)) (elR_elR _ _)
    unfold lsL
    rw [cutR_at _ _ _ _ (by omega), Nat.zero_add, Nat.zero_add, liF_at l _ _ _ hk hj]
  unfold nm
  rw [lsL_len]
  exact List.map_congr_left fun k hk => by rw [e k (List.mem_range.1 hk)]
end Go.Sh
namespace Go.Proofs.YtaloefkkllebeaaDoor
open Go Go.Sh
noncomputable def tblLi (Of : List (R8 32) → R8 32) : List (Row A) := [rowOf A 92 (fun x : GA (Rt 32 × Unit) => Of x.x.1.l)]
def liS (g : Spot) (l : List (R8 32)) (f : Nat → A) (i : Nat) : St A :=
  ⟨slots 0 19 [(0, .val false [rsE g l]), (2, .val false [.p 0 0]), (3, .val false [.gr f 1 i i 32]), (6, .val false [rsE g l]), (7, .val false [.n .i64 (l.length : Int)]), (8, .val false [.n .i64 (i : Int)])],
    [some ⟨zer8 32, 46, false⟩, some ⟨[.mk i (c32 i)], 25, false⟩], 0, [], []⟩
def orLi : Nat → Nat → Dec := fun _ t => match Nat.beq t 3 with | true => .grow 25 32 | false => .keep
theorem list_of {Of : List (R8 32) → R8 32} (ht : TblOK Tryd.prog (tblLi Of)) : Computes A Tryd.prog 95 (fun x : GA (Rt 32 × Unit) => Of (lsL x.x.1.l)) := by
  refine computes_of_runW ht (ITblOK.nil _) Tryd.func95 (by kernel_rfl) (by kernel_rfl) 6 ?_
  rintro ⟨g, _⟩ ⟨⟨⟨l⟩, ⟨⟩⟩⟩ W ⟨hr, ⟨hg, hn⟩, _⟩
  have hG : HasRows W l g := hg
  have hN : l.length < 1048576 := hn
  have hs : SoundFor Tryd.prog W.cell? [] (.loop (loopNo Tryd.f95 3)) (liS g l (liF l 0) 0) (.exit 0) (liS g l (liF l l.length) l.length) := fun c e1 e2 e3 e4 =>
    loopAt (c := c) (inv := fun i => liS g l (liF l i) i) (N := l.length) (by simp)
      (fun i hi => by
        have gr : i = i ∧ timesN i (31 + 1) = c32 i ∧ Sh.Bears (i + 1) 32 := ⟨rfl, by rw [timesN_eq, c32_eq]; omega, by unfold Sh.Bears maxLen; omega⟩
        have rd : Reads W.cell? g.a (rsAt (l := l)) (i * 32) 32 := reads_rows (n := 32) hG (by omega)
        show Round c _ _ _ (liS g l (catF (liF l i) (timesN i (31 + 1)) (cells32 (elR (rsB l) (i * 32))) 0) (i + 1))
        generalize liF l i = f
        exact Round.of0 ht (saysY []) 6 [WrapI ((i : Int) + 1), i = i ∧ timesN i (31 + 1) = c32 i ∧ Sh.Bears (i + 1) 32, Reads W.cell? g.a (rsAt l) (i * 32) 32, IX (i : Int) l.length, decide ((i : Int) < (l.length : Int)) = true] (by kernel_rfl)
          ⟨wI (by omega) (by omega), gr, rd, ⟨by omega, by omega⟩, decide_eq_true (by omega), trivial⟩ (by kernel_rfl) (by kernel_rfl) e1 e2 e3 e4)
      (by
        generalize liF l l.length = f
        exact Round.of0 ht (saysY [(9, false)]) 6 [decide ((l.length : Int) < (l.length : Int)) = false] (by kernel_rfl) ⟨decide_eq_false (by omega), trivial⟩ (by kernel_rfl) (by kernel_rfl) e1 e2 e3 e4)
  have hu := liF_u8 l l.length
  have hlen := lsL_len l
  show ∃ orc lp y vc, _ ∧ _ ∧ y = Of (lsL l) ∧ _
  unfold lsL at hlen ⊢
  revert hs hu hlen
  generalize liF l l.length = f
  intro hs hu hlen
  refine ⟨orLi, lps [(3, liS g l (fun _ => Atom.dummy) 0, .exit 0, liS g l f l.length)], Of (cutR 32 (fun j => u8of (f (0 + j))) l.length), [RoundsIn W.cell?, (cutR 32 (fun j => u8of (f (0 + j))) l.length).length < 1048576, ∀ j, j < l.length * 32 → isU8 (f (0 + j)) = true, ToldIs (liS g l (fun _ => Atom.dummy) 0)], by kernel_rfl,
    ⟨hr, by rw [cutR_len]; exact hN, fun j _ => hu _, toldIs _, trivial⟩, rfl, fun body hb => ?_⟩
  obtain rfl := Option.some.inj hb
  exact LoopsFor.cons (by kernel_rfl) hs LoopsFor.nil
theorem list_ok : Computes A Tryd.prog 95 (fun x : GA (Rt 32 × Unit) => ofV (rootV pairR8) (lsL x.x.1.l)) := list_of (.cons of_ok.row (.nil _))
end Go.Proofs.YtaloefkkllebeaaDoor
/- Roots: a committee's, as an argument. -/
namespace Go.Sh
/-- A committee: its keys, their sum. -/
structure Ck where
  keys : List (R8 48)
  sum : R8 48
def isSl : SV A → Bool
  | .e .. => true
  | .kn .. => true
  | .gr .. => true
  | .v (.slice none 0 0) => true
  | _ => false
theorem sl_one {β : Adr} {s : SV A} {vs : List Value} (hs : isSl s = true) (h : s.Is β vs) : ∃ u, vs = [u] := by
  unfold isSl at hs
  split at hs
  · rename_i a f i n c
    have h' : extIs a i n c vs := h
    cases a with
    | none => obtain ⟨_, _, e⟩ := h'; exact ⟨_, e⟩
    | some b => obtain ⟨_, _, _, e⟩ := h'; exact ⟨_, e⟩
  · have h' : knownIs β _ _ _ _ vs := h
    rcases h' with ⟨_, e⟩ | ⟨_, _, e, _⟩
    · exact ⟨_, e⟩
    · exact ⟨_, e⟩
  · have h' : knownIs β _ 0 _ _ vs := growsIs.known h
    rcases h' with ⟨_, e⟩ | ⟨_, _, e, _⟩
    · exact ⟨_, e⟩
    · exact ⟨_, e⟩
  · exact ⟨_, h.1⟩
  · cases hs
def ckParse (old : Addr → Option Value) (m : Mem A) : TV A → Option (Ck × List Prop)
  | .val true (s :: cells) =>
    match isSl s with
    | true => (match rsParse 48 old m (asKn (.val false [s])), Rep.parseV (A := A) (T := R8 48) true cells with
      | some (b, vc), some r => some (⟨b.l, r⟩, (b.l.length < 1048576) :: vc)
      | _, _ => none)
    | false => none
  | _ => none
instance : Arg A Ck where
  G := Spot
  good W g x := HasRows W x.keys g ∧ x.keys.length < 1048576
  tv g x := .val true [.e g.a (rsAt x.keys) 0 x.keys.length g.c, .a (.w8 48 x.sum.f)]
  val g x := .agg (spotVal x.keys.length g :: Rep.vals A x.sum).toArray
  is := by
    intro W g x β h
    obtain ⟨h1, _⟩ := h
    have h2 : LIs β [.e g.a (rsAt x.keys) 0 x.keys.length g.c] [spotVal x.keys.length g] := Arg.is (A := A) (T := Rs 48) (x := ⟨x.keys⟩) β h1
    refine ⟨spotVal x.keys.length g :: Rep.vals A x.sum, ⟨[spotVal x.keys.length g], Rep.vals A x.sum, LIs.single h2, LIs.atom rfl, rfl⟩, rfl⟩
  parse old m t := ckParse old m t
  ok := by
    intro c X W0 W β m t x vc v h hvc hm e
    unfold ckParse at h
    split at h
    · rename_i s cells
      split at h
      · rename_i hs
        split at h
        · rename_i b vc' r hb hr
          simp at h
          obtain ⟨rfl, rfl⟩ := h
          obtain ⟨vs, ⟨x1, y1, h1, h2, rfl⟩, rfl⟩ := e
          obtain ⟨u, rfl⟩ := sl_one hs h1
          obtain ⟨g, k1, k2⟩ := Arg.ok (A := A) (T := Rs 48) (c := c) (m := m) (t := .val false [s]) hb (fun p hp => hvc p (by simp [hp])) hm (LIs.of_single h1)
          have k3 := Rep.parseV_ok (A := A) hr (β := β) (v := .agg y1.toArray) ⟨y1, h2, rfl⟩
          refine ⟨g, ⟨k1, hvc _ (by simp)⟩, ?_⟩
          have k4 : y1 = Rep.vals A r := by
            have k5 : Value.agg y1.toArray = .agg (Rep.vals A r).toArray := k3
            simpa using k5
          have k6 : u = spotVal b.l.length g := k2
          rw [k4, k6]
          rfl
        · cases h
      · cases h
    · cases h
end Go.Sh
/- Roots: a committee's. -/
namespace Go.Sh
/-- Key i of a row of them. -/
def el48 (l : List (R8 48)) (i : Nat) : Nat → UInt8 := pickN 0 (extR (rsB l) (i * 48) 48)
/-- So many keys' roots. -/
def coF (Ke : R8 48 → R8 32) (l : List (R8 48)) : Nat → Nat → A
  | 0 => fun _ => Atom.dummy
  | i + 1 => catF (coF Ke l i) (timesN i (31 + 1)) (cells32 (Ke ⟨el48 l i⟩).f) 0
theorem coF_u8 (Ke : R8 48 → R8 32) (l : List (R8 48)) : ∀ (k i : Nat), isU8 (coF Ke l k i) = true
  | 0, i => rfl
  | k + 1, i => by
    simp only [coF, catF]
    split
    · exact coF_u8 Ke l k i
    · rw [cells32_u8]; rfl
def coL (Ke : R8 48 → R8 32) (l : List (R8 48)) : List (R8 32) := cutR 32 (fun j => u8of (coF Ke l l.length (0 + j))) l.length
theorem coL_len (Ke : R8 48 → R8 32) (l : List (R8 48)) : (coL Ke l).length = l.length := cutR_len _ _ _
/-- Two rows behind one another. -/
def twF (a b : Nat → UInt8) : Nat → A := fun j => ((lits a ++ lits b)[j]?).getD (.u8 (a 0))
def twL (a b : Nat → UInt8) : List (R8 32) := cutR 32 (fun j => u8of (twF a b (0 + j))) 2
theorem twL_len (a b : Nat → UInt8) : (twL a b).length = 2 := cutR_len _ _ _
theorem twF_u8 (a b : Nat → UInt8) (j : Nat) : isU8 (twF a b j) = true := by
  unfold twF
  cases h : (lits a ++ lits b)[j]? with
  | none => rfl
  | some x =>
    have hx := List.mem_of_getElem? h
    rcases List.mem_append.1 hx with hx | hx <;> exact lits_u8 _ _ hx
end Go.Sh
namespace Go.Proofs.YtaloefkkllebeaaDoor
open Go Go.Sh
noncomputable def tblCo (Ke : R8 48 → R8 32) (Ls Of : List (R8 32) → R8 32) : List (Row A) :=
  [rowOf A 42 (fun x : GA (R8 48 × Unit) => Ke x.x.1), rowOf A 95 (fun x : GA (Rt 32 × Unit) => Ls x.x.1.l), rowOf A 92 (fun x : GA (Rt 32 × Unit) => Of x.x.1.l)]
def rs48 (g : Spot) (l : List (R8 48)) : SV A := .e g.a (rsAt l) 0 l.length g.c
def coS (g : Spot) (l : List (R8 48)) (s : Nat → UInt8) (f : Nat → A) (i : Nat) : St A :=
  ⟨slots 0 26 [(1, .val false [.p 0 0]), (2, .val false [.p 1 0]), (3, .val false [.gr f 2 i i 32]), (7, .val false [rs48 g l]), (8, .val false [.n .i64 (l.length : Int)]), (9, .val false [.n .i64 (i : Int)])],
    [some ⟨[rs48 g l, .a (.w8 48 s)], 53, false⟩, some ⟨zer8 32, 46, false⟩, some ⟨[.mk i (c32 i)], 46, false⟩], 0, [], []⟩
def orCo : Nat → Nat → Dec := fun _ t => match Nat.beq t 3 with | true => .grow 46 32 | false => .keep
theorem committee_of {Ke : R8 48 → R8 32} {Ls Of : List (R8 32) → R8 32} (ht : TblOK Tryd.prog (tblCo Ke Ls Of)) : Computes A Tryd.prog 44 (fun x : GA (Ck × Unit) => Of (twL (Ls (coL Ke x.x.1.keys)).f (Ke x.x.1.sum).f)) := by
  refine computes_of_runW ht (ITblOK.nil _) Tryd.func44 (by kernel_rfl) (by kernel_rfl) 6 ?_
  rintro ⟨g, _⟩ ⟨⟨⟨l, ⟨s⟩⟩, ⟨⟩⟩⟩ W ⟨hr, ⟨hg, hn⟩, _⟩
  have hG : HasRows W l g := hg
  have hN : l.length < 1048576 := hn
  have hs : SoundFor Tryd.prog W.cell? [] (.loop (loopNo Tryd.f44 3)) (coS g l s (coF Ke l 0) 0) (.exit 0) (coS g l s (coF Ke l l.length) l.length) := fun c e1 e2 e3 e4 =>
    loopAt (c := c) (inv := fun i => coS g l s (coF Ke l i) i) (N := l.length) (by simp)
      (fun i hi => by
        have gr : i = i ∧ timesN i (31 + 1) = c32 i ∧ Sh.Bears (i + 1) 32 := ⟨rfl, by rw [timesN_eq, c32_eq]; omega, by unfold Sh.Bears maxLen; omega⟩
        have rd : Reads W.cell? g.a (rsAt (l := l)) (i * 48) 48 := reads_rows (n := 48) hG (by omega)
        show Round c _ _ _ (coS g l s (catF (coF Ke l i) (timesN i (31 + 1)) (cells32 (Ke ⟨el48 l i⟩).f) 0) (i + 1))
        generalize coF Ke l i = f
        exact Round.of0 ht (saysY []) 6 [WrapI ((i : Int) + 1), i = i ∧ timesN i (31 + 1) = c32 i ∧ Sh.Bears (i + 1) 32, RoundsIn W.cell?, Reads W.cell? g.a (rsAt l) (i * 48) 48, IX (i : Int) l.length, decide ((i : Int) < (l.length : Int)) = true] (by kernel_rfl)
          ⟨wI (by omega) (by omega), gr, hr, rd, ⟨by omega, by omega⟩, decide_eq_true (by omega), trivial⟩ (by kernel_rfl) (by kernel_rfl) e1 e2 e3 e4)
      (by
        generalize coF Ke l l.length = f
        exact Round.of0 ht (saysY [(10, false)]) 6 [decide ((l.length : Int) < (l.length : Int)) = false] (by kernel_rfl) ⟨decide_eq_false (by omega), trivial⟩ (by kernel_rfl) (by kernel_rfl) e1 e2 e3 e4)
  have hu := coF_u8 Ke l l.length
  show ∃ orc lp y vc, _ ∧ _ ∧ y = Of (twL (Ls (coL Ke l)).f (Ke ⟨s⟩).f) ∧ _
  unfold coL
  revert hs hu
  generalize coF Ke l l.length = f
  intro hs hu
  refine ⟨orCo, lps [(3, coS g l s (fun _ => Atom.dummy) 0, .exit 0, coS g l s f l.length)], Of (twL (Ls (cutR 32 (fun j => u8of (f (0 + j))) l.length)).f (Ke ⟨s⟩).f),
    [RoundsIn W.cell?, (twL (Ls (cutR 32 (fun j => u8of (f (0 + j))) l.length)).f (Ke ⟨s⟩).f).length < 1048576, ∀ j, j < 2 * 32 → isU8 (twF (Ls (cutR 32 (fun j => u8of (f (0 + j))) l.length)).f (Ke ⟨s⟩).f (0 + j)) = true, RoundsIn W.cell?, RoundsIn W.cell?, (cutR 32 (fun j => u8of (f (0 + j))) l.length).length < 1048576, ∀ j, j < l.length * 32 → isU8 (f (0 + j)) = true, ToldIs (coS g l s (fun _ => Atom.dummy) 0)], by kernel_rfl,
    ⟨hr, by rw [twL_len]; decide, fun j _ => twF_u8 _ _ _, hr, hr, by rw [cutR_len]; exact hN, fun j _ => hu _, toldIs _, trivial⟩, rfl, fun body hb => ?_⟩
  obtain rfl := Option.some.inj hb
  exact LoopsFor.cons (by kernel_rfl) hs LoopsFor.nil
def keyV (Pr : R8 32 → R8 32 → R8 32) (k : R8 48) : R8 32 := ofV (rootV Pr) (keyL k.f)
def comV (Pr : R8 32 → R8 32 → R8 32) (x : Ck) : R8 32 := ofV (rootV Pr) (twL (ofV (rootV Pr) (lsL (coL (keyV Pr) x.keys))).f (keyV Pr x.sum).f)
theorem committee_ok : Computes A Tryd.prog 44 (fun x : GA (Ck × Unit) => comV pairR8 x.x.1) :=
  committee_of (Ke := keyV pairR8) (Ls := fun l => ofV (rootV pairR8) (lsL l)) (Of := ofV (rootV pairR8)) (.cons key_ok.row (.cons list_ok.row (.cons of_ok.row (.nil _))))
end Go.Proofs.YtaloefkkllebeaaDoor
