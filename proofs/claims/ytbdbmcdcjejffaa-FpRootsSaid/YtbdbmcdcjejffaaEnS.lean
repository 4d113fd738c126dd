/- Aggregates of whole numbers, held against one another. -/
import Derived.Test.YtbdbmcdcjejffaaEnB
import Derived.ChangeKeysEq
set_option linter.unusedVariables false
set_option linter.unusedSimpArgs false
set_option linter.unusedSectionVars false
namespace Go.Sh
open Go.RowKit

theorem run_isAggS {P : Program} {w : World} {t : TypeId} {b : Bool} (h : isAggB P t = some b) : (isAgg t).run P w = .ok b w := by
  unfold isAggB at h
  unfold isAgg
  split at h
  · rename_i hu; cases h; rw [Sem.run_bind, run_underlying hu]; rfl
  · rename_i hu; cases h; rw [Sem.run_bind, run_underlying hu]; rfl
  · rename_i d h1 h2 hu
    cases h
    rw [Sem.run_bind, run_underlying hu, Result.andThen_ok]
    split <;> simp_all
  · cases h

/-- Cells that are whole numbers, pairwise of a kind: are all the same? -/
def eqVs : List Value → List Value → Option Bool
  | [], [] => some true
  | .int k a :: l, .int k' b :: r => if k = k' then (match eqVs l r with | some q => some ((a == b) && q) | none => none) else none
  | _, _ => none

theorem eqVs_len : ∀ {x y : List Value} {q : Bool}, eqVs x y = some q → x.length = y.length
  | [], [], _, _ => rfl
  | .int _ _ :: l, .int _ _ :: r, q, h => by
    simp only [eqVs] at h
    split at h
    · split at h
      · rename_i h'; simp [eqVs_len h']
      · cases h
    · cases h
  | [], _ :: _, _, h => by simp [eqVs] at h
  | x :: l, [], q, h => by cases x <;> simp [eqVs] at h
  | x :: l, y :: r, q, h => by
    cases x <;> cases y <;> simp only [eqVs] at h <;> try cases h
    split at h
    · split at h
      · rename_i h'; simp [eqVs_len h']
      · cases h
    · cases h

theorem eqVs_cons {k k' : IntKind} {a b : Int} {l r : List Value} {q : Bool} (h : eqVs (.int k a :: l) (.int k' b :: r) = some q) : k = k' ∧ ∃ q', eqVs l r = some q' ∧ q = ((a == b) && q') := by
  simp only [eqVs] at h
  split at h
  · split at h
    · rename_i hk _ q' hq
      exact ⟨hk, q', hq, by simpa using h.symm⟩
    · cases h
  · cases h

theorem eqVs_ints : ∀ {x y : List Value} {q : Bool}, eqVs x y = some q → ∀ u v l r, x = u :: l → y = v :: r → ∃ k a b, u = .int k a ∧ v = .int k b := by
  rintro x y q h u v l r rfl rfl
  cases u <;> cases v <;> simp only [eqVs] at h <;> try cases h
  split at h
  · rename_i hk; subst hk; exact ⟨_, _, _, rfl, rfl⟩
  · cases h

theorem eqVs_append : ∀ {x x' y y' : List Value} {q : Bool}, x.length = y.length → eqVs (x ++ x') (y ++ y') = some q → ∃ q1 q2, eqVs x y = some q1 ∧ eqVs x' y' = some q2 ∧ q = (q1 && q2)
  | [], x', [], y', q, _, h => ⟨true, q, rfl, h, by simp⟩
  | u :: l, x', v :: r, y', q, hl, h => by
    obtain ⟨k, a, b, rfl, rfl⟩ := eqVs_ints h _ _ _ _ rfl rfl
    obtain ⟨_, q', hq, e⟩ := eqVs_cons h
    obtain ⟨q1, q2, h1, h2, e2⟩ := eqVs_append (by simpa using hl) hq
    exact ⟨(a == b) && q1, q2, by simp [eqVs, h1], h2, by rw [e, e2, Bool.and_assoc]⟩
  | [], _, _ :: _, _, _, hl, _ => by simp at hl
  | _ :: _, _, [], _, _, hl, _ => by simp at hl

theorem eqRows_vs {A : Type} [Atom A] {β : Adr} : ∀ {l r : List (SV A)} {lit q : Bool} {xs ys : List Value}, eqRows l r = some (lit, q) → LIs β l xs → LIs β r ys → xs.length = l.length ∧ eqVs xs ys = some q
  | [], [], _, _, xs, ys, h, hx, hy => by
    simp [eqRows] at h
    obtain ⟨_, rfl⟩ := h
    obtain rfl : xs = [] := hx
    obtain rfl : ys = [] := hy
    exact ⟨rfl, rfl⟩
  | x :: l, y :: r, lit, q, xs, ys, h, hx, hy => by
    simp only [eqRows] at h
    split at h
    · rename_i lx kx a ly ky b lit' e' h1 h2 h3
      split at h
      · rename_i hk
        simp at h
        obtain ⟨_, rfl⟩ := h
        obtain ⟨ux, vx, hx1, hx2, rfl⟩ := hx
        obtain ⟨uy, vy, hy1, hy2, rfl⟩ := hy
        have sx : x.size = 1 := intOfSV_size h1
        have sy : y.size = 1 := intOfSV_size h2
        have lx1 := hx1.len
        have ly1 := hy1.len
        rw [sx] at lx1
        rw [sy] at ly1
        match ux, uy, lx1, ly1 with
        | [u], [v], _, _ =>
          have eu := intOfSV_is hx1 h1
          have ev := intOfSV_is hy1 h2
          subst eu; subst ev; subst hk
          obtain ⟨i1, i2⟩ := eqRows_vs h3 hx2 hy2
          exact ⟨by simp [i1], by simp [eqVs, i2]⟩
      · cases h
    · cases h
  | [], _ :: _, _, _, _, _, h, _, _ => by simp [eqRows] at h
  | _ :: _, [], _, _, _, _, h, _, _ => by simp [eqRows] at h

/-- Parts of a type, held against one another. -/
def PartEq (P : Program) (d : Nat) (t : TypeId) (m : Nat) : Prop :=
  ∀ (w : World) (X Y : Array Value) (off : Nat) (q : Bool), off + m ≤ X.size → off + m ≤ Y.size → eqVs ((X.toList.drop off).take m) ((Y.toList.drop off).take m) = some q →
    ∃ a b, (part t X off).run P w = .ok a w ∧ (part t Y off).run P w = .ok b w ∧ (Op.equalIn d t a b).run P w = .ok q w

theorem cut_split {X : List Value} {off m k : Nat} : (X.drop off).take (m + k) = (X.drop off).take m ++ (X.drop (off + m)).take k := by
  rw [List.take_add, List.drop_drop]

theorem items_eq {P : Program} {d : Nat} {e : TypeId} {m : Nat} (hc : P.cellsOf e = m) (IH : PartEq P d e m) (w : World) (X Y : Array Value) : ∀ (n i : Nat) (q : Bool), (i + n) * m ≤ X.size → (i + n) * m ≤ Y.size →
    eqVs ((X.toList.drop (i * m)).take (n * m)) ((Y.toList.drop (i * m)).take (n * m)) = some q → (Op.eqItems d e (P.cellsOf e) X Y (List.range' i n)).run P w = .ok q w
  | 0, i, q, _, _, h => by
    simp [eqVs] at h
    subst h
    simp [Op.eqItems]
  | n + 1, i, q, hX, hY, h => by
    have e1 : (n + 1) * m = m + n * m := by rw [Nat.succ_mul, Nat.add_comm]
    have e2 : i * m + m = (i + 1) * m := by rw [Nat.succ_mul]
    have e3 : (i + (n + 1)) * m = i * m + (m + n * m) := by rw [Nat.add_mul, e1]
    rw [e3] at hX hY
    rw [e1, cut_split, cut_split, e2] at h
    obtain ⟨q1, q2, h1, h2, rfl⟩ := eqVs_append (by simp; omega) h
    obtain ⟨a, b, p1, p2, p3⟩ := IH w X Y (i * m) q1 (by omega) (by omega) h1
    have e4 : (i + 1 + n) * m = i * m + (m + n * m) := by rw [Nat.add_mul, Nat.succ_mul]; omega
    have ih := items_eq hc IH w X Y n (i + 1) q2 (by omega) (by omega) h2
    rw [List.range'_succ]
    simp only [Op.eqItems, Sem.run_bind]
    rw [hc] at ih ⊢
    rw [p1, Result.andThen_ok, p2, Result.andThen_ok, p3, Result.andThen_ok]
    cases q1
    · simp
    · simpa using ih

theorem fields_eq {P : Program} {d : Nat} {f : TypeId → Option Nat} (IH : ∀ t m, f t = some m → PartEq P d t m) (w : World) (X Y : Array Value) (base : Nat) : ∀ (fs : List Field) (off s : Nat) (q : Bool), flatFs P f off fs = some s → s ≤ X.size → s ≤ Y.size →
    eqVs ((X.toList.drop off).take (s - off)) ((Y.toList.drop off).take (s - off)) = some q → off ≤ s ∧ (Op.eqFields d X Y fs).run P w = .ok q w
  | [], off, s, q, h, _, _, hq => by
    simp [flatFs] at h
    subst h
    simp [eqVs] at hq
    subst hq
    exact ⟨Nat.le_refl _, by simp [Op.eqFields]⟩
  | x :: l, off, s, q, h, hX, hY, hq => by
    simp only [flatFs] at h
    split at h
    · rename_i m hm
      split at h
      · rename_i ho
        split at h
        · cases h
        · rename_i hn
          have hle : off + m ≤ s := by
            clear hq
            revert h
            generalize off + m = k
            clear hn ho
            induction l generalizing k with
            | nil => intro h; simp [flatFs] at h; omega
            | cons y r ih =>
              intro h
              simp only [flatFs] at h
              split at h
              · split at h
                · split at h
                  · cases h
                  · have := ih _ h; omega
                · cases h
              · cases h
          have es : s - off = m + (s - (off + m)) := by omega
          rw [es, cut_split, cut_split] at hq
          obtain ⟨q1, q2, h1, h2, rfl⟩ := eqVs_append (by simp; omega) hq
          obtain ⟨a, b, p1, p2, p3⟩ := IH _ _ hm w X Y off q1 (by omega) (by omega) h1
          obtain ⟨_, ih⟩ := fields_eq IH w X Y base l (off + m) s q2 h hX hY h2
          refine ⟨by omega, ?_⟩
          simp only [Op.eqFields, hn, ne_eq, not_false_eq_true, if_true, Sem.run_bind, ho]
          rw [p1, Result.andThen_ok, p2, Result.andThen_ok, p3, Result.andThen_ok]
          cases q1
          · simp
          · simpa using ih
      · cases h
    · cases h

theorem run_partAgg {P : Program} {w : World} {t : TypeId} {i : TypeInfo} (ha : isAggB P t = some true) (hi : P.info? t = some i) (X : Array Value) (off : Nat) :
    (part t X off).run P w = .ok (.agg (X.extract off (off + i.size))) w := by
  unfold part
  rw [Sem.run_bind, run_isAggS ha, Result.andThen_ok, if_pos rfl, Sem.run_bind, run_sizeOf w hi, Result.andThen_ok]
  simp [Program.cellsOf, hi]

theorem extract_cut (X : Array Value) (off m : Nat) : (X.extract off (off + m)).toList = (X.toList.drop off).take m := by
  rw [Array.toList_extract]
  simp [List.extract]

theorem eqFlat {P : Program} : ∀ (n d : Nat) (t : TypeId) (m : Nat), n ≤ d → flatI P n t = some m → PartEq P d t m
  | 0, _, _, _, _, h => by simp [flatI] at h
  | n + 1, d, t, m, hd, h => by
    obtain ⟨d, rfl⟩ : ∃ d', d = d' + 1 := ⟨d - 1, by omega⟩
    intro w X Y off q hX hY hq
    unfold flatI at h
    split at h
    · rename_i k hu hs
      simp at h; subst h
      have hx : X.toList[off]? = some X[off] := by simp
      have hy : Y.toList[off]? = some Y[off] := by simp
      have e1 : (X.toList.drop off).take 1 = [X[off]] := by
        rw [List.take_one, List.head?_drop, hx]; rfl
      have e2 : (Y.toList.drop off).take 1 = [Y[off]] := by
        rw [List.take_one, List.head?_drop, hy]; rfl
      rw [e1, e2] at hq
      obtain ⟨k', a, b, h1, h2⟩ := eqVs_ints hq _ _ _ _ rfl rfl
      rw [h1, h2] at hq
      obtain ⟨_, q', hq', e⟩ := eqVs_cons hq
      simp [eqVs] at hq'
      subst hq'
      have ha : isAggB P t = some false := by simp [isAggB, hu]
      refine ⟨.int k' a, .int k' b, ?_, ?_, ?_⟩
      · unfold part
        rw [Sem.run_bind, run_isAggS ha]
        simp [show X[off]? = some (.int k' a) by rw [Array.getElem?_eq_getElem (by omega), h1]]
      · unfold part
        rw [Sem.run_bind, run_isAggS ha]
        simp [show Y[off]? = some (.int k' b) by rw [Array.getElem?_eq_getElem (by omega), h2]]
      · rw [run_equalIn_int w d t k' k a b hu, e]
        simp
    · rename_i k e s hu hs
      split at h
      · rename_i me hme
        split at h
        · rename_i hk
          simp at h; subst h
          have IH := eqFlat n d e me (by omega) hme
          have ha : isAggB P t = some true := by simp [isAggB, hu]
          unfold sizeT at hs
          split at hs
          · rename_i i hi
            simp at hs
            have hce : P.cellsOf e = me := by
              cases n with
              | zero => simp [flatI] at hme
              | succ n =>
                have : sizeT P e = some me := by
                  unfold flatI at hme
                  split at hme
                  · rename_i h1 h2; rw [h2]; exact hme
                  · rename_i h1 h2
                    split at hme
                    · split at hme
                      · rw [h2]; exact hme
                      · cases hme
                    · cases hme
                  · rename_i h1 h2
                    split at hme
                    · cases hme
                    · split at hme
                      · rw [h2]; exact hme
                      · cases hme
                  · cases hme
                unfold sizeT at this
                split at this
                · rename_i j hj
                  simp at this
                  simp [Program.cellsOf, hj, this]
                · cases this
            obtain ⟨ie, hie⟩ : ∃ ie, P.info? e = some ie := by
              cases hie : P.info? e with
              | none =>
                have : sizeT P e = none := by simp [sizeT, hie]
                cases n with
                | zero => simp [flatI] at hme
                | succ n => unfold flatI at hme; rw [this] at hme; split at hme <;> simp_all
              | some ie => exact ⟨ie, rfl⟩
            refine ⟨_, _, run_partAgg ha hi X off, run_partAgg ha hi Y off, ?_⟩
            rw [hs, run_equalIn_array w d _ _ hu hie, List.range_eq_range']
            refine items_eq hce IH w _ _ k 0 q ?_ ?_ ?_
            · simp; omega
            · simp; omega
            · simp only [Nat.zero_mul, List.drop_zero, hk]
              rw [extract_cut, extract_cut, List.take_take, List.take_take, Nat.min_self]
              exact hq
          · cases hs
        · cases h
      · cases h
    · rename_i fs s hu hs
      split at h
      · cases h
      · rename_i hst
        split at h
        · rename_i hf
          simp at h; subst h
          have IH : ∀ t m, flatI P n t = some m → PartEq P d t m := fun t m => eqFlat n d t m (by omega)
          have ha : isAggB P t = some true := by simp [isAggB, hu]
          unfold sizeT at hs
          split at hs
          · rename_i i hi
            simp at hs
            have hfs : P.fieldsOf t = fs := by simp [Program.fieldsOf, hu]
            refine ⟨_, _, run_partAgg ha hi X off, run_partAgg ha hi Y off, ?_⟩
            rw [hs, run_equalIn_struct w d t _ _ (by rw [hfs]; exact hu) (by simpa using hst), hfs]
            refine (fields_eq IH w _ _ 0 fs.toList 0 s q hf ?_ ?_ ?_).2
            · simp; omega
            · simp; omega
            · simp only [Nat.sub_zero, List.drop_zero]
              rw [extract_cut, extract_cut, List.take_take, List.take_take, Nat.min_self]
              exact hq
          · cases hs
        · cases h
    · cases h

theorem flatFs_guard {P : Program} {f : TypeId → Option Nat} {d : Nat} (IH : ∀ t m, f t = some m → P.eqGuardType d t = false) : ∀ (fs : List Field) (off s : Nat), flatFs P f off fs = some s → (fs.any fun x => x.name != "_" && P.eqGuardType d x.type) = false
  | [], _, _, _ => rfl
  | x :: l, off, s, h => by
    simp only [flatFs] at h
    split at h
    · rename_i m hm
      split at h
      · split at h
        · cases h
        · rw [List.any_cons, IH _ _ hm, flatFs_guard IH l _ _ h, Bool.and_false, Bool.or_false]
      · cases h
    · cases h

theorem flatI_guard {P : Program} : ∀ (n d : Nat) (t : TypeId) (m : Nat), n ≤ d → flatI P n t = some m → P.eqGuardType d t = false
  | 0, _, _, _, _, h => by simp [flatI] at h
  | n + 1, d, t, m, hd, h => by
    obtain ⟨d, rfl⟩ : ∃ d', d = d' + 1 := ⟨d - 1, by omega⟩
    unfold flatI at h
    split at h
    · rename_i k hu hs
      simp [Program.eqGuardType, hu]
    · rename_i k e s hu hs
      split at h
      · rename_i me hme
        simp only [Program.eqGuardType, hu]
        exact flatI_guard n d e me (by omega) hme
      · cases h
    · rename_i fs s hu hs
      split at h
      · cases h
      · split at h
        · rename_i hf
          simp only [Program.eqGuardType, hu]
          rw [← Array.any_toList]
          exact flatFs_guard (fun t m => flatI_guard n d t m (by omega)) fs.toList 0 s hf
        · cases h
    · cases h

theorem flatI_agg {P : Program} {n m : Nat} {t : TypeId} (h : flatI P n t = some m) : sizeT P t = some m := by
  cases n with
  | zero => simp [flatI] at h
  | succ n =>
    unfold flatI at h
    split at h
    · rename_i h1 h2; rw [h2]; exact h
    · rename_i h1 h2
      split at h
      · split at h
        · rw [h2]; exact h
        · cases h
      · cases h
    · rename_i h1 h2
      split at h
      · cases h
      · split at h
        · rw [h2]; exact h
        · cases h
    · cases h

/-- Two aggregates of whole numbers. -/
theorem eqAgg_run {A : Type} [Atom A] {β : Adr} {P : Program} {w : World} {op : BinOp} {t : TypeId} {x y : Operand} {l r : List (SV A)} {lit q : Bool} {xs ys : List Value} {n : Nat} (ha : isAggB P t = some true) (ht : flatI P 6 t = some n)
    (h : eqRows l r = some (lit, q)) (hl : l.length = n) (hx : LIs β l xs) (hy : LIs β r ys) :
    (Op.equal t (.agg xs.toArray) (.agg ys.toArray)).run P w = .ok q w ∧ (eqGuard op t x y (.agg xs.toArray) (.agg ys.toArray)).run P w = .ok () w := by
  obtain ⟨h1, h2⟩ := eqRows_vs h hx hy
  have h3 := eqVs_len h2
  obtain ⟨a, b, p1, p2, p3⟩ := eqFlat 6 10000 t n (by omega) ht w xs.toArray ys.toArray 0 q (by simp; omega) (by simp; omega) (by
    simp only [List.drop_zero]
    rw [List.take_of_length_le (by omega), List.take_of_length_le (by omega)]
    exact h2)
  have hs := flatI_agg ht
  unfold sizeT at hs
  split at hs
  · rename_i i hi
    simp at hs
    have g : ∀ zs : List Value, zs.length = n → zs.toArray.extract 0 (0 + i.size) = zs.toArray := by
      intro zs hz
      apply Array.toList_inj.1
      rw [extract_cut, hs]
      simp only [List.drop_zero]
      exact List.take_of_length_le (by omega)
    rw [run_partAgg ha hi, g xs (by omega)] at p1
    rw [run_partAgg ha hi, g ys (by omega)] at p2
    obtain rfl : Value.agg xs.toArray = a := by simpa using p1
    obtain rfl : Value.agg ys.toArray = b := by simpa using p2
    refine ⟨p3, ?_⟩
    have hg : P.eqGuardType P.depth t = false := by
      refine flatI_guard 6 _ t n ?_ ht
      unfold Program.depth Made.depth
      omega
    exact run_eqGuard_agg w op t x y _ _ hg
  · cases hs

end Go.Sh
