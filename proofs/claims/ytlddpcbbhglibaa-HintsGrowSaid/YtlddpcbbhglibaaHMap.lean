/- The two maps of an index that holds points of one schema with one text: what look-ups and stores in them run to. -/
import Derived.Test.YtlddpcbbhglibaaTriF
import Derived.Maps.RangeRun
import Derived.Maps.OwnOps
namespace Go.Proofs.Ytlddpcbbhglibaa
open Go.RowKit Bits
open Go.ChangeMaps (setBlock)
set_option maxHeartbeats 400000

def load : ByteArray := ⟨#[108, 111, 97, 100]⟩
def host : ByteArray := ⟨#[104, 111, 115, 116]⟩
def keyV (a c : ByteArray) : Value := .agg #[.string a, .string c]
def seenO : Bool → Obj
  | false => .map #[] 0
  | true => .map #[⟨.string load, .bool true, 0⟩] 1
def bitsO : Option B → Obj
  | none => .map #[] 0
  | some b => .map #[⟨keyV load host, bitsV b, 0⟩] 1
def bitsAt (st : Option B) (a c : ByteArray) : B := match st with
  | none => zero
  | some b => if (a.toList == load.toList) && (c.toList == host.toList) then b else zero

theorem und66 : Try.prog.underlying 66 = some (.map 9 4) := by kernel_rfl
theorem und67 : Try.prog.underlying 67 = some (.map 75 24) := by kernel_rfl
theorem zero4 (w : World) : (zeroValue 4).run Try.prog w = .ok (.bool false) w := by kernel_rfl
theorem zero24 (w : World) : (zeroValue 24).run Try.prog w = .ok (bitsV zero) w := by kernel_rfl
theorem check9 (e : Bool) (k : ByteArray) (w : World) : (Instr.checkKey e 10000 9 (.string k)).run Try.prog w = .ok () w := by
  cases e <;> kernel_rfl
theorem check75 (e : Bool) (a c : ByteArray) (w : World) : (Instr.checkKey e 10000 75 (keyV a c)).run Try.prog w = .ok () w := by
  cases e <;> kernel_rfl
theorem und9 (w : World) : (underlying 9).run Try.prog w = .ok .string w := by kernel_rfl
theorem und66r (w : World) : (underlying 66).run Try.prog w = .ok (.map 9 4) w := by kernel_rfl
theorem und67r (w : World) : (underlying 67).run Try.prog w = .ok (.map 75 24) w := by kernel_rfl
theorem find_none (t : TypeId) (d : TypeDesc) (k : Value) (w : World) (h : (underlying t).run Try.prog w = .ok d w) : (Instr.findKey t k []).run Try.prog w = .ok none w := by
  simp [Instr.findKey, Instr.findNow, h, Result.andThen]
theorem find_str (k : ByteArray) (v : Value) (w : World) : (Instr.findKey 9 (.string k) [⟨.string load, v, 0⟩]).run Try.prog w = .ok (if k == load then some (0, v) else none) w := by
  simp only [Instr.findKey, Sem.run_bind, und9, Result.andThen, Instr.findNow, Instr.sameNow]
  cases h : (k == load) <;> rfl
theorem look_seen {W : World} {m : Nat} {s : Bool} (h : W.heap[m]? = some (seenO s)) (k : ByteArray) : (Instr.lookup 66 (.map (some m)) (.string k) false).run Try.prog W = .ok (.bool (s && (k == load))) W := by
  cases s
  · simp [Instr.lookup, Result.andThen, getObj, Sem.run, h, seenO, check9, find_none 9 _ _ W (und9 W)]
  · have hf := find_str k (.bool true) W
    cases hk : (k == load)
    · rw [hk] at hf
      simp [Instr.lookup, Result.andThen, getObj, Sem.run, h, seenO, check9, hf]
    · rw [hk] at hf
      simp [Instr.lookup, Result.andThen, getObj, Sem.run, h, seenO, check9, hf]
theorem f75 : (Try.prog.fieldsOf 75).toList = [⟨"name", 9, 0, false, "", "catchment/hints", 0⟩, ⟨"col", 9, 1, false, "", "catchment/hints", 16⟩] := by kernel_rfl
theorem und75 : Try.prog.underlying 75 = some (.struct (Try.prog.fieldsOf 75)) := by kernel_rfl
theorem held75 : Try.prog.stoodInHeld 75 = false := by kernel_rfl
theorem und75r (w : World) : (underlying 75).run Try.prog w = .ok (.struct (Try.prog.fieldsOf 75)) w := by kernel_rfl
set_option maxRecDepth 100000 in
theorem eq75 (d : Nat) (a c a' c' : ByteArray) (w : World) : (Op.equalIn (d + 2) 75 (keyV a c) (keyV a' c')).run Try.prog w = .ok (a.toList == a'.toList && c.toList == c'.toList) w := by
  unfold keyV
  rw [run_equalIn_agg w _ _ _ _ und75 held75, f75]
  by_cases h1 : a.toList = a'.toList <;> by_cases h2 : c.toList = c'.toList <;> simp [h1, h2, Op.eqFields, part, go_sem]
theorem equal75 (a c a' c' : ByteArray) (w : World) : (Op.equal 75 (keyV a c) (keyV a' c')).run Try.prog w = .ok (a.toList == a'.toList && c.toList == c'.toList) w := eq75 9998 a c a' c' w
theorem find_key (a c : ByteArray) (v : Value) (w : World) : (Instr.findKey 75 (keyV a c) [⟨keyV load host, v, 0⟩]).run Try.prog w = .ok (if (a.toList == load.toList) && (c.toList == host.toList) then some (0, v) else none) w := by
  have he := equal75 a c load host w
  cases h : ((a.toList == load.toList) && (c.toList == host.toList))
  · rw [h] at he
    simp [Instr.findKey, Result.andThen, Instr.findNow, keyV, Instr.sameNow, Instr.findAsking] at he ⊢
    simp [he]
  · rw [h] at he
    simp [Instr.findKey, Result.andThen, Instr.findNow, keyV, Instr.sameNow, Instr.findAsking] at he ⊢
    simp [he]
theorem look_bits {W : World} {n : Nat} {st : Option B} (h : W.heap[n]? = some (bitsO st)) (a c : ByteArray) : (Instr.lookup 67 (.map (some n)) (keyV a c) false).run Try.prog W = .ok (bitsV (bitsAt st a c)) W := by
  match st, h with
  | none, h =>
    simp [Instr.lookup, Result.andThen, getObj, Sem.run, h, bitsO, check75, find_none 75 _ _ W (und75r W), bitsAt]
    rfl
  | some b, h =>
    have hf := find_key a c (bitsV b) W
    cases hk : ((a.toList == load.toList) && (c.toList == host.toList))
    · rw [hk] at hf
      simp only [Bool.false_eq_true, if_false] at hf
      simp [Instr.lookup, Result.andThen, getObj, Sem.run, h, bitsO, check75, hf, bitsAt, hk]
      rfl
    · rw [hk] at hf
      simp only [if_true] at hf
      simp [Instr.lookup, Result.andThen, getObj, Sem.run, h, bitsO, check75, hf, bitsAt, hk]
theorem ll : (load == load) = true := by decide
theorem same_key : Instr.sameBits 10000 (keyV load host) (keyV load host) = true := by decide
theorem store_seen {W : World} {m : Nat} {s : Bool} (h : W.heap[m]? = some (seenO s)) : (Instr.mapUpdate 66 (.map (some m)) (.string load) (.bool true)).run Try.prog W = .ok () (setBlock W m (seenO true)) := by
  cases s
  · simp [Instr.mapUpdate, Result.andThen, getObj, Sem.run, h, seenO, check9, find_none 9 _ _ W (und9 W), setObj, setBlock]
  · have hf := find_str load (.bool true) W
    rw [ll] at hf
    simp only [if_true] at hf
    simp [Instr.mapUpdate, Result.andThen, getObj, Sem.run, h, seenO, check9, hf, setObj, setBlock, Instr.keyThatStays, Instr.sameBits, ll]
theorem store_bits {W : World} {n : Nat} {st : Option B} (h : W.heap[n]? = some (bitsO st)) (b : B) : (Instr.mapUpdate 67 (.map (some n)) (keyV load host) (bitsV b)).run Try.prog W = .ok () (setBlock W n (bitsO (some b))) := by
  match st, h with
  | none, h => simp [Instr.mapUpdate, Result.andThen, getObj, Sem.run, h, bitsO, check75, find_none 75 _ _ W (und75r W), setObj, setBlock]
  | some x, h =>
    have hf := find_key load host (bitsV x) W
    have e : ((load.toList == load.toList) && (host.toList == host.toList)) = true := by simp
    rw [e] at hf
    simp only [if_true] at hf
    simp [Instr.mapUpdate, Result.andThen, getObj, Sem.run, h, bitsO, check75, hf, setObj, setBlock, Instr.keyThatStays, same_key]
end Go.Proofs.Ytlddpcbbhglibaa
