/- A law on the machine: two arrays of whole numbers held against one another by ==. -/
import Derived.Test.YtlddpcbbhglibaaMem
import Derived.Test.YtlddpcbbhglibaaProg
import Derived.Laws.StructEq
namespace Go.Proofs.Ytlddpcbbhglibaa
open Go.Proofs
section
variable {P : Program}
theorem run_part_int (w : World) (elem : TypeId) (k : IntKind) (hagg : (isAgg elem).run P w = .ok false w) (xs : List Int) (i : Nat) (hi : i < xs.length) :
    (part elem (xs.map (Value.int k)).toArray i).run P w = .ok (.int k xs[i]) w := by
  simp [part, hagg, List.getElem?_eq_getElem hi]
theorem loop_eq {β : Type} (w : World) (len : Nat) (xs ys : List Int) (hx : xs.length = len) (hy : ys.length = len) {b0 bF : β} (body : Nat → β → Sem (ForInStep β)) (F : β → World → Result Bool)
    (hb : ∀ i, i < len → (body i b0).run P w = .ok (if xs.getD i 0 == ys.getD i 0 then .yield b0 else .done bF) w) (hF : F bF w = .ok false w) (h0 : F b0 w = .ok true w) :
    ∀ n s, s + n = len → (Sem.run P (forIn (List.range' s n) b0 body) w).andThen F = .ok (xs.drop s == ys.drop s) w := by
  intro n
  induction n with
  | zero =>
    intro s hs'
    rw [List.drop_eq_nil_of_le (by omega), List.drop_eq_nil_of_le (by omega)]
    simpa using h0
  | succ n ih =>
    intro s hs'
    rw [List.range'_succ, List.forIn_cons]
    have e1 : xs.drop s = xs.getD s 0 :: xs.drop (s + 1) := by
      rw [List.drop_eq_getElem_cons (by omega), List.getD_eq_getElem?_getD, List.getElem?_eq_getElem (by omega)]; rfl
    have e2 : ys.drop s = ys.getD s 0 :: ys.drop (s + 1) := by
      rw [List.drop_eq_getElem_cons (by omega), List.getD_eq_getElem?_getD, List.getElem?_eq_getElem (by omega)]; rfl
    rw [e1, e2, List.cons_beq_cons]
    simp only [Sem.run_bind, hb s (by omega), Result.andThen_ok]
    cases xs.getD s 0 == ys.getD s 0
    · simpa using hF
    · have := ih (s + 1) (by omega)
      simp only [if_true, Bool.true_and]
      exact this
theorem run_eqArr (w : World) (d : Nat) (t elem : TypeId) (len : Nat) (k : IntKind) (ht : P.underlying t = some (.array len elem)) (he : P.underlying elem = some (.int k))
    (hs : (P.info? elem).map (·.size) = some 1) (hagg : (isAgg elem).run P w = .ok false w) (xs ys : List Int) (hx : xs.length = len) (hy : ys.length = len) :
    (Op.equalIn (d + 2) t (.agg (xs.map (Value.int k)).toArray) (.agg (ys.map (Value.int k)).toArray)).run P w = .ok (xs == ys) w := by
  obtain ⟨i0, hi, hz⟩ := Option.map_eq_some_iff.1 hs
  have heq : ∀ i, i < len → (Op.equalIn (d + 1) elem (.int k (xs.getD i 0)) (.int k (ys.getD i 0))).run P w = .ok (xs.getD i 0 == ys.getD i 0) w := fun i _ => run_equalIn_int w d elem k k _ _ he
  have hp : ∀ (zs : List Int), zs.length = len → ∀ i, i < len → (part elem (zs.map (Value.int k)).toArray i).run P w = .ok (.int k (zs.getD i 0)) w := fun zs hl i hlt => by
    rw [run_part_int w elem k hagg zs i (by omega), List.getD_eq_getElem?_getD, List.getElem?_eq_getElem (by omega)]; rfl
  rw [Op.equalIn]
  simp only [Sem.run_bind, run_underlying ht, Result.andThen_ok, sizeOf, typeInfo, run_program, hi, hz, Sem.run_pure]
  simp only [Std.Legacy.Range.forIn_eq_forIn_range', Std.Legacy.Range.size, Nat.sub_zero, Nat.add_sub_cancel, Nat.div_one, Nat.mul_one]
  refine Eq.trans (loop_eq (P := P) w len xs ys hx hy (bF := (some false, PUnit.unit)) _ _ ?_ ?_ ?_ len 0 (by omega)) ?_
  · intro i hi
    simp only [Sem.run_bind, hp xs hx i hi, hp ys hy i hi, heq i hi, Result.andThen_ok]
    cases xs.getD i 0 == ys.getD i 0 <;> rfl
  · rfl
  · rfl
  · rw [List.drop_zero, List.drop_zero]
end
theorem info22 : (Try.prog.info? 22).map (·.size) = some 1 := by kernel_rfl
theorem isAgg22 (w : World) : (isAgg 22).run Try.prog w = .ok false w := by kernel_rfl
theorem run_eq24 (d x0 x1 x2 x3 y0 y1 y2 y3 : Nat) (w : World) :
    (Op.equalIn (d + 2) 24 (.agg #[.int .u64 (x0 : Int), .int .u64 (x1 : Int), .int .u64 (x2 : Int), .int .u64 (x3 : Int)]) (.agg #[.int .u64 (y0 : Int), .int .u64 (y1 : Int), .int .u64 (y2 : Int), .int .u64 (y3 : Int)])).run Try.prog w
      = .ok (decide (x0 = y0 ∧ x1 = y1 ∧ x2 = y2 ∧ x3 = y3)) w := by
  have h := run_eqArr w d 24 22 4 .u64 Try.underlying24 Try.underlying22 info22 (isAgg22 w) [(x0 : Int), x1, x2, x3] [(y0 : Int), y1, y2, y3] rfl rfl
  refine h.trans ?_
  congr 1
  rw [Bool.eq_iff_iff, beq_iff_eq, decide_eq_true_iff]
  simp only [List.cons.injEq, and_true]
  omega
end Go.Proofs.Ytlddpcbbhglibaa
