/- Ranging over a map of one entry or none: what each step runs to. -/
import Derived.Test.YtlddpcbbhglibaaHMake
namespace Go.Proofs.Ytlddpcbbhglibaa
open Go.RowKit Bits
open Go.ChangeMaps (setBlock)
set_option maxHeartbeats 4000000
variable {W : World} {r m c : Nat} {es : Array MapEntry} {k v : Value}

theorem range_66 (h : W.heap[m]? = some (.map es c)) : (Instr.range 66 (.map (some m))).run Try.prog W = .ok (.pointer (some ⟨W.heap.size, 0, none⟩)) (W.alloc (.mapIter (some m) c #[] c)) := by
  simp only [Instr.range, Sem.run_bind, und66r, Result.andThen, getObj, Sem.run, h]
  rfl
theorem range_67 (h : W.heap[m]? = some (.map es c)) : (Instr.range 67 (.map (some m))).run Try.prog W = .ok (.pointer (some ⟨W.heap.size, 0, none⟩)) (W.alloc (.mapIter (some m) c #[] c)) := by
  simp only [Instr.range, Sem.run_bind, und67r, Result.andThen, getObj, Sem.run, h]
  rfl
theorem next_none (ty : TypeId) (hr : W.heap[r]? = some (.mapIter (some m) 0 #[] 0)) (h : W.heap[m]? = some (.map #[] 0)) : (Instr.next (.pointer (some ⟨r, 0, none⟩)) false ty).run Try.prog W = .ok (.tuple #[.bool false]) W := by
  rcases run_next_at (P := Try.prog) W ty r m 0 0 #[] #[] 0 hr h (by simp) (Nat.le_refl _) with ⟨_, h⟩ | ⟨e, he, _⟩
  · exact h
  · simp [leftOf] at he
theorem next_first (ty : TypeId) (hr : W.heap[r]? = some (.mapIter (some m) 1 #[] 1)) (h : W.heap[m]? = some (.map #[⟨k, v, 0⟩] 1)) :
    (Instr.next (.pointer (some ⟨r, 0, none⟩)) false ty).run Try.prog W = .ok (.tuple #[.bool true, k, v]) (setBlock W r (.mapIter (some m) 1 #[0] 1)) := by
  simp [Instr.next, getObj, Sem.run, hr, h, Result.andThen, choose, Question.forced, setObj, setBlock]
theorem next_last (ty : TypeId) (hr : W.heap[r]? = some (.mapIter (some m) 1 #[0] 1)) (h : W.heap[m]? = some (.map #[⟨k, v, 0⟩] 1)) :
    (Instr.next (.pointer (some ⟨r, 0, none⟩)) false ty).run Try.prog W = .ok (.tuple #[.bool false]) W := by
  simp [Instr.next, getObj, Sem.run, hr, h, Result.andThen, choose, Question.forced]
theorem entry_one (hr : W.heap[r]? = some (.mapIter (some m) 1 #[0] 1)) (h : W.heap[m]? = some (.map #[⟨k, v, 0⟩] 1)) :
    (Instr.entry (.pointer (some ⟨r, 0, none⟩))).run Try.prog W = .ok (.tuple #[k, v]) W := by
  simp [Instr.entry, getObj, Sem.run, hr, h, Result.andThen]
def itLeft (r : Nat) (W : World) : Nat := match W.heap[r]? with
  | some (.mapIter _ _ seen _) => 1 - seen.size
  | _ => 0
end Go.Proofs.Ytlddpcbbhglibaa
