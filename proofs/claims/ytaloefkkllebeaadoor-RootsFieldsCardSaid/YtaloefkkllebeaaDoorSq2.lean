/- Roots: committees as a law's arguments; pairs of cut rows. -/
import Derived.Test.YtaloefkkllebeaaDoorSl8
set_option linter.unusedVariables false
set_option linter.unusedSimpArgs false
set_option linter.unusedSectionVars false
set_option maxRecDepth 100000
namespace Go.Sh
/-- A committee of any number of keys. -/
structure Cl where
  keys : List (R8 48)
  sum : R8 48
def clParse (old : Addr → Option Value) (m : Mem A) : TV A → Option (Cl × List Prop)
  | .val true (s :: cells) =>
    match isSl s with
    | true => (match rsParse 48 old m (asKn (.val false [s])), Rep.parseV (A := A) (T := R8 48) true cells with
      | some (b, vc), some r => some (⟨b.l, r⟩, vc)
      | _, _ => none)
    | false => none
  | _ => none
instance : Arg A Cl where
  G := Spot
  good W g x := HasRows W x.keys g
  tv g x := .val true [.e g.a (rsAt x.keys) 0 x.keys.length g.c, .a (.w8 48 x.sum.f)]
  val g x := .agg (spotVal x.keys.length g :: Rep.vals A x.sum).toArray
  is := by
    intro W g x β h1
    have h2 : LIs β [.e g.a (rsAt x.keys) 0 x.keys.length g.c] [spotVal x.keys.length g] := Arg.is (A := A) (T := Rs 48) (x := ⟨x.keys⟩) β h1
    refine ⟨spotVal x.keys.length g :: Rep.vals A x.sum, ⟨[spotVal x.keys.length g], Rep.vals A x.sum, LIs.single h2, LIs.atom rfl, rfl⟩, rfl⟩
  parse old m t := clParse old m t
  ok := by
    intro c X W0 W β m t x vc v h hvc hm e
    unfold clParse at h
    split at h
    · rename_i s cells
      split at h
      · rename_i hs
        split at h
        · rename_i b vc' r hb hr
          simp at h
          obtain ⟨rfl, rfl⟩ := h
          obtain ⟨vs, ⟨x1, y1, h1, h2, rfl⟩, rfl⟩ := e
          obtain ⟨u, rfl⟩ := sl_one hs h1
          obtain ⟨g, k1, k2⟩ := Arg.ok (A := A) (T := Rs 48) (c := c) (m := m) (t := .val false [s]) hb hvc hm (LIs.of_single h1)
          have k3 := Rep.parseV_ok (A := A) hr (β := β) (v := .agg y1.toArray) ⟨y1, h2, rfl⟩
          refine ⟨g, k1, ?_⟩
          have k4 : y1 = Rep.vals A r := by
            have k5 : Value.agg y1.toArray = .agg (Rep.vals A r).toArray := k3
            simpa using k5
          have k6 : u = spotVal b.l.length g := k2
          rw [k4, k6]
          rfl
        · cases h
      · cases h
    · cases h
instance : OpensArg A Cl where
  shape := .srow 48 (List.replicate 48 (.int .u8))
  opens W v h := by
    obtain ⟨f, k, g, cs, ⟨h1, h2, h3⟩, h4, rfl⟩ := h
    obtain ⟨s, rfl⟩ := Opens.opens (A := A) (T := R8 48) cs h4
    refine ⟨g, ⟨cutR 48 f k, s⟩, ⟨by rw [cutR_len]; exact h1, h2, fun a ha i hi => ?_⟩, ?_⟩
    · rw [cutR_len] at hi
      rw [h3 a ha i hi, cutR_at _ _ _ _ hi]
    · show Value.agg (spotVal k g :: Rep.vals A s).toArray = .agg (spotVal (cutR 48 f k).length g :: Rep.vals A s).toArray
      rw [cutR_len]
theorem map_cut (a : Nat → UInt8) : (List.range 32).map (elR a 0) = (List.range 32).map a := by
  refine List.map_congr_left fun j hj => ?_
  unfold elR
  rw [extR_at _ _ _ _ (List.mem_range.1 hj), Nat.zero_add]
theorem both_cut (a b : Nat → UInt8) : both (elR a 0) (elR b 0) = both a b := by
  unfold both
  rw [map_cut, map_cut]
end Go.Sh
namespace Go.Proofs.YtaloefkkllebeaaDoor
open Go Go.Sh
theorem pair_ext (a b : R8 32) : pairR8 ⟨elR a.f 0⟩ ⟨elR b.f 0⟩ = pairR8 a b := by
  unfold pairR8
  rw [both_cut]
end Go.Proofs.YtaloefkkllebeaaDoor
namespace Go.Proofs.YtaloefkkllebeaaDoor
open Go Go.Sh
noncomputable def tblF8 (Pm : R8 32 → R8 32 → R8 32) (Cr : UInt64 → R8 32) (ZR : Int → R8 32) (Ke : R8 48 → R8 32) (Hr : Hd → R8 32) (Co : Ck → R8 32) (T : List (R8 32) → Nat → R8 32) : List (Row A) :=
  [rowOf A 38 (fun _ : GA Unit => true), rowOf A 39 (fun _ : Unit => (⟨.mk⟩ : Hz Mk)), rowOf A 34 (fun x : Ptr Mk × R8 32 × R8 32 × Unit => Pm x.2.1 x.2.2.1), rowOf A 40 (fun x : UInt64 × Unit => Cr x.1),
    rowOf A 41 (fun x : Hs Mk × Int × Unit => ZR x.2.1), rowOf A 42 (fun x : GA (R8 48 × Unit) => Ke x.x.1), rowOf A 43 (fun x : GA (Hd × Unit) => Hr x.x.1), rowOf A 44 (fun x : GA (Ck × Unit) => Co x.x.1),
    rowOf A 46 (fun x : Int × Unit => ((depQ x.1 : Nat) : Int)), rowOf A 45 (fun x : Hs Mk × Rt 32 × Dp 62 × Unit => T x.2.1.l x.2.2.1.n)]
def hB2 : SV A := .ka (Celled.cellA Mk.mk) 0 (Celled.n Mk)
def fiS (g : Spot) (l : List (R8 48)) (s p : UInt64) (a b c m P Q : Nat → UInt8) (f : Nat → A) (i : Nat) : St A :=
  ⟨slots 0 88 [(2, .val false [.p 0 0]), (3, .val false [.p 1 0]), (4, .val false [.v (.bool false)]), (5, .val false [.p 2 0]), (6, .val false [.p 3 0]), (7, .val false [.p 4 0]), (8, .val false [.gr f 5 i i 32]), (9, .val false [.n .i64 (i : Int)])],
    [some ⟨[.a (.u64 s), .a (.u64 p), .a (.w8 32 a), .a (.w8 32 b), .a (.w8 32 c)], 48, false⟩, some ⟨[rs48 g l, .a (.w8 48 m)], 53, false⟩, some ⟨[hB2], 55, false⟩, some ⟨[.a (.w8 32 P)], 25, false⟩, some ⟨[.a (.w8 32 Q)], 25, false⟩, some ⟨[.mk i (c32 i)], 25, false⟩], 0, [], []⟩
def orFi (s : List (Nat × Bool)) : Nat → Nat → Dec := fun r t => match Nat.beq t 8 with | true => .grow 25 32 | false => saysY s r t
def kC (l : List (R8 48)) : List (R8 48) := cutR 48 (fun j => u8of (rsAt l (0 + j))) l.length
theorem kC_len (l : List (R8 48)) : (kC l).length = l.length := cutR_len _ _ _
section
variable {Pm : R8 32 → R8 32 → R8 32} {Cr : UInt64 → R8 32} {ZR : Int → R8 32} {Ke : R8 48 → R8 32} {Hr : Hd → R8 32} {Co : Ck → R8 32} {T : List (R8 32) → Nat → R8 32} (ht : TblOK Tryd.prog (tblF8 Pm Cr ZR Ke Hr Co T))
  (hH : ∀ s p (a b c : Nat → UInt8), eqB (Hr (s, p, ⟨a⟩, ⟨b⟩, ⟨c⟩)).f (Pm (Pm (Pm (Cr s) (Cr p)) (Pm ⟨a⟩ ⟨b⟩)) (Pm (Pm ⟨c⟩ zR) (ZR 1))).f 0 32 = true) (hC : ∀ (l : List (R8 48)) (m : R8 48), l.length ≤ 40 → eqB (Co ⟨kC l, m⟩).f (Pm (T (coL Ke l) ((depQ (l.length : Int) : Int)).toNat) (Ke m)).f 0 32 = true)
include ht hH hC
theorem rootsFields_of : Computes A Tryd.prog 8 (fun _ : GA (Hd × Cl × Unit) => true) := by
  refine computes_of_runT Tryd.func8 (by kernel_rfl) (by kernel_rfl) 6 ?_
  rintro ⟨_, g, _⟩ ⟨⟨⟨s, p, ⟨a⟩, ⟨b⟩, ⟨c⟩⟩, ⟨l, ⟨m⟩⟩, ⟨⟩⟩⟩ W ⟨hr, _, hg, _⟩
  have hG : HasRows W l g := hg
  cases h40 : decide ((l.length : Int) > 40) with
  | true =>
    exact ⟨_, _, ht, ITblOK.nil _, saysY [], noLoop, true, [decide ((l.length : Int) > 40) = true, true = true, RoundsIn W.cell?], by kernel_rfl, ⟨h40, rfl, hr, trivial⟩, rfl, fun body _ => loopsFor_none⟩
  | false =>
    have hl : l.length ≤ 40 := by have := of_decide_eq_false h40; omega
    have e1 := hH s p a b c
    have e2 := hC l ⟨m⟩ hl
    have hd := depQ_le (l.length : Int)
    have rd : Reads W.cell? g.a (rsAt l) 0 (l.length * 48) := reads_rows (n := 48) hG (by omega)
    have hs : SoundFor Tryd.prog W.cell? [] (.loop (loopNo Tryd.f8 10)) (fiS g l s p a b c m (Pm (Pm (Cr s) (Cr p)) (Pm ⟨a⟩ ⟨b⟩)).f (Pm (Pm ⟨c⟩ zR) (ZR 1)).f (coF Ke l 0) 0) (.exit 0) (fiS g l s p a b c m (Pm (Pm (Cr s) (Cr p)) (Pm ⟨a⟩ ⟨b⟩)).f (Pm (Pm ⟨c⟩ zR) (ZR 1)).f (coF Ke l l.length) l.length) := fun cc q1 q2 q3 q4 =>
      loopAt (c := cc) (inv := fun i => fiS g l s p a b c m (Pm (Pm (Cr s) (Cr p)) (Pm ⟨a⟩ ⟨b⟩)).f (Pm (Pm ⟨c⟩ zR) (ZR 1)).f (coF Ke l i) i) (N := l.length) (by simp)
        (fun i hi => by
          have gr : i = i ∧ timesN i (31 + 1) = c32 i ∧ Sh.Bears (i + 1) 32 := ⟨rfl, by rw [timesN_eq, c32_eq]; omega, by unfold Sh.Bears maxLen; omega⟩
          have rd : Reads W.cell? g.a (rsAt (l := l)) (i * 48) 48 := reads_rows (n := 48) hG (by omega)
          show Round cc _ _ _ (fiS g l s p a b c m _ _ (catF (coF Ke l i) (timesN i (31 + 1)) (cells32 (Ke ⟨el48 l i⟩).f) 0) (i + 1))
          generalize coF Ke l i = f
          exact Round.of0 ht (saysY []) 6 [WrapI ((i : Int) + 1), i = i ∧ timesN i (31 + 1) = c32 i ∧ Sh.Bears (i + 1) 32, RoundsIn W.cell?, Reads W.cell? g.a (rsAt l) (i * 48) 48, IX (i : Int) l.length, decide ((i : Int) < (l.length : Int)) = true] (by kernel_rfl)
            ⟨wI (by omega) (by omega), gr, hr, rd, ⟨by omega, by omega⟩, decide_eq_true (by omega), trivial⟩ (by kernel_rfl) (by kernel_rfl) q1 q2 q3 q4)
        (by
          generalize coF Ke l l.length = f
          exact Round.of0 ht (saysY [(51, false)]) 6 [decide ((l.length : Int) < (l.length : Int)) = false] (by kernel_rfl) ⟨decide_eq_false (by omega), trivial⟩ (by kernel_rfl) (by kernel_rfl) q1 q2 q3 q4)
    have hu := coF_u8 Ke l l.length
    unfold coL at e2
    revert hs hu e2
    generalize coF Ke l l.length = f
    intro e2 hs hu
    refine ⟨_, _, ht, ITblOK.nil _, orFi [(15, false)], lps [(10, fiS g l s p a b c m (Pm (Pm (Cr s) (Cr p)) (Pm ⟨a⟩ ⟨b⟩)).f (Pm (Pm ⟨c⟩ zR) (ZR 1)).f (fun _ => Atom.dummy) 0, .exit 0, fiS g l s p a b c m (Pm (Pm (Cr s) (Cr p)) (Pm ⟨a⟩ ⟨b⟩)).f (Pm (Pm ⟨c⟩ zR) (ZR 1)).f f l.length)], true,
      [eqB (Co ⟨kC l, ⟨m⟩⟩).f (Pm (T (cutR 32 (fun j => u8of (f (0 + j))) l.length) ((depQ (l.length : Int) : Int)).toNat) (Ke ⟨m⟩)).f 0 32 = true, TabsAre, RoundsIn W.cell?, TabsAre, (cutR 32 (fun j => u8of (f (0 + j))) l.length).length < 1048576, ∀ j, j < l.length * 32 → isU8 (f (0 + j)) = true, (0 : Int) ≤ (depQ (l.length : Int) : Int) ∧ (depQ (l.length : Int) : Int) ≤ ((62 : Nat) : Int), RoundsIn W.cell?,
        (kC l).length < 1048576, Reads W.cell? g.a (rsAt l) 0 (l.length * 48), ∀ j, j < l.length * 48 → isU8 (rsAt l (0 + j)) = true, eqB (Hr (s, p, ⟨a⟩, ⟨b⟩, ⟨c⟩)).f (Pm (Pm (Pm (Cr s) (Cr p)) (Pm ⟨a⟩ ⟨b⟩)) (Pm (Pm ⟨c⟩ zR) (ZR 1))).f 0 32 = true, TabsAre, RoundsIn W.cell?,
        ToldIs (fiS g l s p a b c m (Pm (Pm (Cr s) (Cr p)) (Pm ⟨a⟩ ⟨b⟩)).f (Pm (Pm ⟨c⟩ zR) (ZR 1)).f (fun _ => Atom.dummy) 0), TabsAre, TabsAre, TabsAre, TabsAre, TabsAre, TabsAre, decide ((l.length : Int) > 40) = false, true = true, RoundsIn W.cell?], by kernel_rfl,
      ⟨e2, tabsAre, hr, tabsAre, by rw [cutR_len]; omega, fun j _ => hu _, by omega, hr, by rw [kC_len]; omega, rd, fun _ _ => rfl, e1, tabsAre, hr, toldIs _, tabsAre, tabsAre, tabsAre, tabsAre, tabsAre, tabsAre, h40, rfl, hr, trivial⟩, rfl, fun body hb => ?_⟩
    obtain rfl := Option.some.inj hb
    exact LoopsFor.cons (by kernel_rfl) hs LoopsFor.nil
end
theorem head_five (Pr : R8 32 → R8 32 → R8 32) (s p : UInt64) (a b c : Nat → UInt8) : headR Pr (s, p, ⟨a⟩, ⟨b⟩, ⟨c⟩) = Pr (Pr (Pr ⟨elR (chunkV s).f 0⟩ ⟨elR (chunkV p).f 0⟩) (Pr ⟨elR a 0⟩ ⟨elR b 0⟩)) (Pr (Pr ⟨elR c 0⟩ ⟨elR zR.f 0⟩) (Pr zR zR)) := by kernel_rfl
theorem el_kC (l : List (R8 48)) (i : Nat) (h : i < l.length) : el48 (kC l) i = el48 l i := by
  unfold el48
  rw [extR_congr (rsB (kC l)) (rsB l) 48 (i * 48) (i * 48) (fun j hj => by
    unfold kC
    rw [cutR_at _ _ _ _ (by omega)]
    show rsB l (0 + _) = _
    rw [Nat.zero_add])]
theorem coF_kC (Ke : R8 48 → R8 32) (l : List (R8 48)) : ∀ i, i ≤ l.length → coF Ke (kC l) i = coF Ke l i
  | 0, _ => rfl
  | i + 1, h => by
    simp only [coF]
    rw [coF_kC Ke l i (by omega), el_kC l i (by omega)]
theorem coL_kC (Ke : R8 48 → R8 32) (l : List (R8 48)) : coL Ke (kC l) = coL Ke l := by
  unfold coL
  rw [kC_len, coF_kC Ke l _ (Nat.le_refl _)]
theorem rootsFields_ok : Computes A Tryd.prog 8 (fun _ : GA (Hd × Cl × Unit) => true) := by
  refine rootsFields_of (Pm := pairR8) (Cr := refChunkV) (ZR := fun d => zK pairR8 zR (zrN d)) (Ke := keyV pairR8) (Hr := headR pairR8) (Co := comV pairR8) (T := treeN pairR8)
    (.cons known20_ok.row (.cons hasher_ok.row (.cons makerPair_ok.row (.cons refChunk_ok.row (.cons refZero_ok.row (.cons key_ok.row (.cons header_ok.row (.cons committee_ok.row (.cons refDepth_ok.row (.cons tree_ok.row (.nil _))))))))))) (fun s p a b c => ?_) (fun l m hl => ?_)
  · have e : zrN 1 = 1 := by rw [zrN_eq]; rfl
    show eqB _ (pairR8 (pairR8 (pairR8 (refChunkV s) (refChunkV p)) (pairR8 ⟨a⟩ ⟨b⟩)) (pairR8 (pairR8 ⟨c⟩ zR) (zK pairR8 zR (zrN 1)))).f 0 32 = true
    rw [e, head_five, ← chunk_same, ← chunk_same, pair_ext, pair_ext ⟨a⟩ ⟨b⟩, pair_ext ⟨c⟩ zR]
    exact eqB_self _ _ _
  · rw [Int.toNat_natCast]
    have e : comV pairR8 ⟨kC l, m⟩ = pairR8 (treeN pairR8 (coL (keyV pairR8) l) (depQ (l.length : Int))) (keyV pairR8 m) := by
      unfold comV
      rw [of_two pairR8 (nm_tw _ _), pair_ext, ofV_tree, lsL_len, coL_len, kC_len]
      unfold treeN
      rw [nm_lsL, coL_kC]
    rw [e]
    exact eqB_self _ _ _
end Go.Proofs.YtaloefkkllebeaaDoor
