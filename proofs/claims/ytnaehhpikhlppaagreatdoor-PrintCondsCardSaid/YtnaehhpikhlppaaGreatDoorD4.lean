/- Several texts of the proof, joined. -/
import Derived.Test.YtnaehhpikhlppaaGreatDoorD1
set_option maxHeartbeats 4000000
set_option linter.unusedVariables false
set_option linter.unusedSimpArgs false
namespace Go.Proofs.YtnaehhpikhlppaaGreatDoor.ParS
open LexS

/-- A token without its place. -/
structure Tk where
  kind : Nat
  s : Bytes
  n : Int
  deriving DecidableEq
def tk (t : Tok) : Tk := ⟨t.kind, t.s, t.n⟩
structure Val where
  kind : Nat
  n : Int
  s : Bytes
  deriving DecidableEq
def noVal : Val := ⟨0, 0, []⟩
structure Nd where
  kind : Nat
  s : Bytes
  n : Int
  from_ : Int
  to_ : Int
  v : Val
  l : List Nat
  names : List Bytes
  aggs : List (Nat × Bytes)
  deriving DecidableEq
def node (kind : Nat) (l : List Nat) : Nd := ⟨kind, [], 0, 0, 0, noVal, l, [], []⟩
/-- An error: how many tokens were left; is something too long? -/
abbrev Er := Nat × Bool
def codeOf (long : Bool) : Nat := if long then 2 else 120
abbrev M (α : Type) := List Tk → List Nd → Except Er (α × List Tk × List Nd)
def M.bind {α β : Type} (p : M α) (f : α → M β) : M β := fun ts ns => match p ts ns with
  | .error e => .error e
  | .ok (a, ts1, ns1) => f a ts1 ns1
def M.pure {α : Type} (a : α) : M α := fun ts ns => .ok (a, ts, ns)
def M.fail {α : Type} : M α := fun ts _ => .error (ts.length, false)
/-- What was just taken opens too much. -/
def M.deep {α : Type} : M α := fun ts _ => .error (ts.length + 1, true)
def kw_fetch : Bytes := [102, 101, 116, 99, 104]
def kw_from : Bytes := [102, 114, 111, 109]
def kw_to : Bytes := [116, 111]
def kw_bar : Bytes := [124]
def kw_comma : Bytes := [44]
def kw_open : Bytes := [40]
def kw_shut : Bytes := [41]
def kw_colon : Bytes := [58]
def kw_by : Bytes := [98, 121]
def kw_or : Bytes := [111, 114]
def kw_and : Bytes := [97, 110, 100]
def kw_not : Bytes := [110, 111, 116]
def kw_has : Bytes := [104, 97, 115]
/-- count sum min max mean merge -/
def kw_aggs : List Bytes := [[99, 111, 117, 110, 116], [115, 117, 109], [109, 105, 110], [109, 97, 120], [109, 101, 97, 110], [109, 101, 114, 103, 101]]
/-- where keep align group top join union -/
def kw_steps : List Bytes := [[119, 104, 101, 114, 101], [107, 101, 101, 112], [97, 108, 105, 103, 110], [103, 114, 111, 117, 112], [116, 111, 112], [106, 111, 105, 110], [117, 110, 105, 111, 110]]
/-- = != < <= > >= -/
def kw_signs : List Bytes := [[61], [33, 61], [60], [60, 61], [62], [62, 61]]
/-- false true -/
def kw_bools : List Bytes := [[102, 97, 108, 115, 101], [116, 114, 117, 101]]
def isW (w : Bytes) (t : Tk) : Bool := (decide (t.kind = 1) || decide (t.kind = 4)) && decide (t.s = w)
def sees (w : Bytes) : List Tk → Option (List Tk)
  | [] => none
  | t :: ts => if isW w t then some ts else none
theorem sees_cons (w : Bytes) (t : Tk) (ts : List Tk) : sees w (t :: ts) = if isW w t then some ts else none := rfl
def wants (w : Bytes) : M Unit := fun ts ns => match sees w ts with
  | some ts1 => .ok ((), ts1, ns)
  | none => .error (ts.length, false)
def take (k : Nat) : M Tk := fun ts ns => match ts with
  | [] => .error (0, false)
  | t :: ts1 => if t.kind = k then .ok (t, ts1, ns) else .error (ts1.length + 1, false)
def lay (n : Nd) : M Nat := fun ts ns => .ok (ns.length, ts, ns ++ [n])
/-- Which of some words is next, from i on; 0: none. -/
def choice : List Bytes → Nat → List Tk → Nat × List Tk
  | [], _, ts => (0, ts)
  | w :: l, i, ts => match sees w ts with
    | some ts1 => (i, ts1)
    | none => choice l (i + 1) ts
/-- More than there may be tokens. -/
def fuel : Nat := 1025
def manyGo {α : Type} (f : M α) : Nat → List α → M (List α)
  | 0, acc => M.pure acc
  | k + 1, acc => fun ts ns => match sees kw_comma ts with
    | none => .ok (acc, ts, ns)
    | some ts1 => M.bind f (fun a => manyGo f k (acc ++ [a])) ts1 ns
def many {α : Type} (f : M α) : M (List α) := M.bind f fun a ts ns => manyGo f fuel [a] ts ns
def name : M Bytes := M.bind (take 1) fun t => M.pure t.s
def names : M (List Bytes) := many name
def agg : M (Nat × Bytes) := fun ts ns => match choice kw_aggs 1 ts with
  | (0, _) => .error (ts.length, false)
  | (1, ts1) => .ok ((1, []), ts1, ns)
  | (k + 2, ts1) => M.bind (take 1) (fun t => M.pure (k + 2, t.s)) ts1 ns
def aggs : M (List (Nat × Bytes)) := many agg
def value : M Val := fun ts ns => match choice kw_bools 1 ts with
  | (1, ts1) => .ok (⟨3, 0, []⟩, ts1, ns)
  | (2, ts1) => .ok (⟨3, 1, []⟩, ts1, ns)
  | _ => match ts with
    | [] => .error (0, false)
    | t :: ts1 => if t.kind = 2 then .ok (⟨1, t.n, []⟩, ts1, ns) else if t.kind = 3 then .ok (⟨2, 0, t.s⟩, ts1, ns) else .error (ts1.length + 1, false)
/-- A condition without words about it. -/
def leaf : M Nat := M.bind (take 1) fun t ts ns => match sees kw_has ts with
  | some ts1 => M.bind (take 3) (fun u => lay { node 15 [] with s := t.s, v := ⟨2, 0, u.s⟩ }) ts1 ns
  | none => match choice kw_signs 1 ts with
    | (0, _) => .error (ts.length, false)
    | (k + 1, ts1) => M.bind value (fun v => lay { node 14 [] with s := t.s, n := ((k + 1 : Nat) : Int), v := v }) ts1 ns
def joinedGo (w : Bytes) (kind : Nat) (read : M Nat) : Nat → Nat → M Nat
  | 0, a => M.pure a
  | k + 1, a => fun ts ns => match sees w ts with
    | none => .ok (a, ts, ns)
    | some ts1 => M.bind read (fun b => M.bind (lay (node kind [a, b])) (joinedGo w kind read k)) ts1 ns
def joined (w : Bytes) (kind : Nat) (read : M Nat) : M Nat := M.bind read fun a ts ns => joinedGo w kind read fuel a ts ns
def bothOf (n : M Nat) : M Nat := joined kw_and 11 n
def condOf (n : M Nat) : M Nat := joined kw_or 12 (bothOf n)
/-- Something that a bracket shuts. -/
def shut (p : M Nat) : M Nat := M.bind p fun a => M.bind (wants kw_shut) fun _ => M.pure a
def notOf (inNot inCond : M Nat) : M Nat := fun ts ns => match sees kw_not ts with
  | some ts1 => M.bind inNot (fun a => lay (node 13 [a])) ts1 ns
  | none => match sees kw_open ts with
    | some ts1 => inCond ts1 ns
    | none => leaf ts ns
/-- How many things more may be open: d. -/
def pNot : Nat → M Nat
  | 0 => notOf M.deep M.deep
  | d + 1 => notOf (pNot d) (shut (condOf (pNot d)))
def pCond (d : Nat) : M Nat := condOf (pNot d)
def stepOf (inner cond : M Nat) (rows : Nat) : M Nat := fun ts ns => match choice kw_steps 1 ts with
  | (1, ts1) => M.bind cond (fun c => lay (node 2 [rows, c])) ts1 ns
  | (2, ts1) => M.bind names (fun l => lay { node 3 [rows] with names := l }) ts1 ns
  | (3, ts1) => M.bind (take 2) (fun t => lay { node 4 [rows] with n := t.n }) ts1 ns
  | (4, ts1) => M.bind (fun ts2 ns2 => match sees kw_colon ts2 with
      | some _ => .ok ([], ts2, ns2)
      | none => names ts2 ns2) (fun l => M.bind (wants kw_colon) fun _ => M.bind aggs fun a => lay { node 5 [rows] with names := l, aggs := a }) ts1 ns
  | (5, ts1) => M.bind (take 2) (fun t => M.bind (wants kw_by) fun _ => M.bind (take 1) fun u => lay { node 6 [rows] with n := t.n, s := u.s }) ts1 ns
  | (6, ts1) => M.bind (wants kw_open) (fun _ => M.bind inner fun i => lay (node 7 [rows, i])) ts1 ns
  | (7, ts1) => M.bind (wants kw_open) (fun _ => M.bind inner fun i => lay (node 8 [rows, i])) ts1 ns
  | _ => .error (ts.length, false)
def stepsGo (step : Nat → M Nat) : Nat → Nat → M Nat
  | 0, a => M.pure a
  | k + 1, a => fun ts ns => match sees kw_bar ts with
    | none => .ok (a, ts, ns)
    | some ts1 => M.bind (step a) (stepsGo step k) ts1 ns
def times : M (Int × Int) := fun ts ns => match sees kw_from ts with
  | some ts1 => M.bind (take 2) (fun f => M.bind (wants kw_to) fun _ => M.bind (take 2) fun g => M.pure (f.n, g.n)) ts1 ns
  | none => .ok ((0, 1099511627775), ts, ns)
def queryOf (step : Nat → M Nat) : M Nat := M.bind (wants kw_fetch) fun _ => M.bind (take 1) fun t => M.bind times fun x =>
  M.bind (lay { node 1 [] with s := t.s, from_ := x.1, to_ := x.2 }) fun a ts ns => stepsGo step fuel a ts ns
def pInner : Nat → M Nat
  | 0 => M.deep
  | d + 1 => shut (queryOf (stepOf (pInner d) (pCond d)))
def pQuery (d : Nat) : M Nat := queryOf (stepOf (pInner d) (pCond d))
/-- All tokens: the nodes, or the number of the token where the error is, and the error. -/
def parseAll (read : M Nat) (l : List Tk) : List Nd × Nat × Nat :=
  if 1024 < l.length then ([], 0, 2) else match read l [] with
    | .error (k, e) => ([], l.length - k, codeOf e)
    | .ok (_, ts, ns) => if ts ≠ [] then ([], l.length - ts.length, 120) else if 128 < ns.length then ([], 0, 2) else (ns, 0, 0)
def parseS (l : List Tok) : List Nd × Nat × Nat := parseAll (pQuery 16) (l.map tk)
def condS (l : List Tok) : List Nd × Nat × Nat := parseAll (pCond 16) (l.map tk)
/-- A text: the nodes, or the byte where the error is, and the error. -/
def queryS (s : Bytes) : List Nd × Nat × Nat := match lexS s with
  | (l, at_, e) => if e ≠ 0 then ([], at_, e) else match parseS l with
    | (ns, n, f) => if f = 0 then (ns, 0, 0) else match l[n]? with
      | some t => (ns, t.at_, f)
      | none => (ns, s.length, f)
end Go.Proofs.YtnaehhpikhlppaaGreatDoor.ParS

namespace Go.Proofs.YtnaehhpikhlppaaGreatDoor.ParS
open LexS

/-- The nodes of a condition that stand from place b on. -/
inductive CT : Nat → List Nd → Prop
  | leaf (b : Nat) (n : Nd) : n.kind = 14 ∨ n.kind = 15 → n.l = [] → CT b [n]
  | un (b : Nat) (ts : List Nd) (n : Nd) : CT b ts → n.kind = 13 → n.l = [b + ts.length - 1] → CT b (ts ++ [n])
  | bin (b : Nat) (ts us : List Nd) (n : Nd) : CT b ts → CT (b + ts.length) us → n.kind = 11 ∨ n.kind = 12 → n.l = [b + ts.length - 1, b + ts.length + us.length - 1] → CT b (ts ++ us ++ [n])
/-- The nodes of a query that stand from place b on. -/
inductive QT : Nat → List Nd → Prop
  | fetch (b : Nat) (n : Nd) : n.kind = 1 → n.l = [] → QT b [n]
  | step (b : Nat) (ts : List Nd) (n : Nd) : QT b ts → (n.kind = 3 ∨ n.kind = 4 ∨ n.kind = 5 ∨ n.kind = 6) → n.l = [b + ts.length - 1] → QT b (ts ++ [n])
  | where_ (b : Nat) (ts us : List Nd) (n : Nd) : QT b ts → CT (b + ts.length) us → n.kind = 2 → n.l = [b + ts.length - 1, b + ts.length + us.length - 1] → QT b (ts ++ us ++ [n])
  | join (b : Nat) (ts us : List Nd) (n : Nd) : QT b ts → QT (b + ts.length) us → n.kind = 7 ∨ n.kind = 8 → n.l = [b + ts.length - 1, b + ts.length + us.length - 1] → QT b (ts ++ us ++ [n])
theorem bind_ok {α β : Type} {p : M α} {f : α → M β} {ts : List Tk} {ns : List Nd} {r : β × List Tk × List Nd} (h : M.bind p f ts ns = .ok r) : ∃ a ts1 ns1, p ts ns = .ok (a, ts1, ns1) ∧ f a ts1 ns1 = .ok r := by
  unfold M.bind at h
  split at h
  · cases h
  · rename_i a ts1 ns1 e
    exact ⟨a, ts1, ns1, e, h⟩
/-- p lays nodes that are so, of which it tells the last one. -/
def Lays (p : M Nat) (T : Nat → List Nd → Prop) : Prop := ∀ ts ns a ts1 ns1, p ts ns = .ok (a, ts1, ns1) → ∃ ms, ns1 = ns ++ ms ∧ T ns.length ms ∧ ms ≠ [] ∧ a = ns.length + ms.length - 1
/-- p lays nothing. -/
def Still {α : Type} (p : M α) : Prop := ∀ ts ns a ts1 ns1, p ts ns = .ok (a, ts1, ns1) → ns1 = ns
theorem still_take (k : Nat) : Still (take k) := by
  intro ts ns a ts1 ns1 h
  unfold take at h
  split at h
  · cases h
  · split at h
    · cases h; rfl
    · cases h
theorem still_wants (w : Bytes) : Still (wants w) := by
  intro ts ns a ts1 ns1 h
  unfold wants at h
  split at h
  · cases h; rfl
  · cases h
theorem still_pure {α : Type} (a : α) : Still (M.pure a) := by
  intro ts ns b ts1 ns1 h
  cases h; rfl
theorem still_bind {α β : Type} {p : M α} {f : α → M β} (hp : Still p) (hf : ∀ a, Still (f a)) : Still (M.bind p f) := by
  intro ts ns b ts2 ns2 h
  obtain ⟨a, ts1, ns1, h1, h2⟩ := bind_ok h
  rw [hf a _ _ _ _ _ h2, hp _ _ _ _ _ h1]
theorem still_manyGo {α : Type} {f : M α} (hf : Still f) : ∀ (k : Nat) (acc : List α), Still (manyGo f k acc)
  | 0, acc => still_pure acc
  | k + 1, acc => by
    intro ts ns b ts2 ns2 h
    unfold manyGo at h
    split at h
    · cases h; rfl
    · exact still_bind hf (fun a => still_manyGo hf k (acc ++ [a])) _ _ _ _ _ h
theorem still_many {α : Type} {f : M α} (hf : Still f) : Still (many f) := still_bind hf fun a ts ns b ts1 ns1 h => still_manyGo hf _ _ _ _ _ _ _ h
theorem still_name : Still name := still_bind (still_take 1) fun _ => still_pure _
theorem still_agg : Still agg := by
  intro ts ns b ts2 ns2 h
  unfold agg at h
  split at h
  · cases h
  · cases h; rfl
  · exact still_bind (still_take 1) (fun _ => still_pure _) _ _ _ _ _ h
theorem still_value : Still value := by
  intro ts ns b ts2 ns2 h
  unfold value at h
  split at h
  · cases h; rfl
  · cases h; rfl
  · split at h
    · cases h
    · split at h
      · cases h; rfl
      · split at h
        · cases h; rfl
        · cases h
theorem still_times : Still times := by
  intro ts ns b ts2 ns2 h
  unfold times at h
  split at h
  · exact still_bind (still_take 2) (fun _ => still_bind (still_wants _) fun _ => still_bind (still_take 2) fun _ => still_pure _) _ _ _ _ _ h
  · cases h; rfl
theorem lays_leaf : Lays leaf CT := by
  intro ts ns a ts2 ns2 h
  obtain ⟨t, ts1, ns1, h1, h2⟩ := bind_ok h
  have e1 := still_take 1 _ _ _ _ _ h1
  subst e1
  split at h2
  · obtain ⟨u, ts3, ns3, h3, h4⟩ := bind_ok h2
    have e3 := still_take 3 _ _ _ _ _ h3
    subst e3
    cases h4
    exact ⟨_, rfl, CT.leaf _ _ (.inr rfl) rfl, by simp, rfl⟩
  · split at h2
    · cases h2
    · obtain ⟨u, ts3, ns3, h3, h4⟩ := bind_ok h2
      have e3 := still_value _ _ _ _ _ h3
      subst e3
      cases h4
      exact ⟨_, rfl, CT.leaf _ _ (.inl rfl) rfl, by simp, rfl⟩
theorem joined_ok {w : Bytes} {kind : Nat} {read : M Nat} (hk : kind = 11 ∨ kind = 12) (hr : Lays read CT) : ∀ (k a : Nat) (ts : List Tk) (ns ms : List Nd) (a2 : Nat) (ts2 : List Tk) (ns2 : List Nd),
    CT ns.length ms → ms ≠ [] → a = ns.length + ms.length - 1 → joinedGo w kind read k a ts (ns ++ ms) = .ok (a2, ts2, ns2) → ∃ ms2, ns2 = ns ++ ms2 ∧ CT ns.length ms2 ∧ ms2 ≠ [] ∧ a2 = ns.length + ms2.length - 1
  | 0, a, ts, ns, ms, a2, ts2, ns2, hc, hne, ha, h => by
    cases h
    exact ⟨ms, rfl, hc, hne, ha⟩
  | k + 1, a, ts, ns, ms, a2, ts2, ns2, hc, hne, ha, h => by
    unfold joinedGo at h
    split at h
    · cases h
      exact ⟨ms, rfl, hc, hne, ha⟩
    · obtain ⟨b, ts3, ns3, h3, h4⟩ := bind_ok h
      obtain ⟨us, rfl, hu, hune, rfl⟩ := hr _ _ _ _ _ h3
      obtain ⟨c, ts4, ns4, h5, h6⟩ := bind_ok h4
      cases h5
      rw [show ns ++ ms ++ us ++ [node kind [a, (ns ++ ms).length + us.length - 1]] = ns ++ (ms ++ us ++ [node kind [a, (ns ++ ms).length + us.length - 1]]) by simp] at h6
      refine joined_ok hk hr k _ _ ns (ms ++ us ++ [_]) _ _ _ ?_ (by simp) (by simp; omega) h6
      rw [List.length_append] at hu
      refine CT.bin _ _ _ _ hc hu hk ?_
      show [a, _] = _
      rw [ha, List.length_append]
theorem lays_joined {w : Bytes} {kind : Nat} {read : M Nat} (hk : kind = 11 ∨ kind = 12) (hr : Lays read CT) : Lays (joined w kind read) CT := by
  intro ts ns a ts2 ns2 h
  obtain ⟨b, ts1, ns1, h1, h2⟩ := bind_ok h
  obtain ⟨ms, rfl, hc, hne, hb⟩ := hr _ _ _ _ _ h1
  exact joined_ok hk hr _ _ _ ns ms _ _ _ hc hne hb h2
theorem lays_cond {n : M Nat} (h : Lays n CT) : Lays (condOf n) CT := lays_joined (.inr rfl) (lays_joined (.inl rfl) h)
theorem lays_shut {n : M Nat} {T : Nat → List Nd → Prop} (h : Lays n T) : Lays (shut n) T := by
  intro ts ns a ts2 ns2 e
  obtain ⟨b, ts1, ns1, h1, h2⟩ := bind_ok e
  obtain ⟨_, ts3, ns3, h3, h4⟩ := bind_ok h2
  have e3 := still_wants _ _ _ _ _ _ h3
  subst e3
  cases h4
  exact h _ _ _ _ _ h1
theorem lays_deep (T : Nat → List Nd → Prop) : Lays M.deep T := by
  intro ts ns a ts2 ns2 h
  cases h
theorem lays_notOf {p q : M Nat} (hp : Lays p CT) (hq : Lays q CT) : Lays (notOf p q) CT := by
  intro ts ns a ts2 ns2 h
  unfold notOf at h
  split at h
  · obtain ⟨b, ts1, ns1, h1, h2⟩ := bind_ok h
    obtain ⟨ms, rfl, hc, hne, hb⟩ := hp _ _ _ _ _ h1
    cases h2
    refine ⟨ms ++ [_], by rw [List.append_assoc], CT.un _ _ _ hc rfl (by rw [hb]; rfl), by simp, by simp⟩
  · split at h
    · exact hq _ _ _ _ _ h
    · exact lays_leaf _ _ _ _ _ h
theorem lays_not (d : Nat) : Lays (pNot d) CT := by
  induction d with
  | zero => exact lays_notOf (lays_deep _) (lays_deep _)
  | succ d ih => exact lays_notOf ih (lays_shut (lays_cond ih))
theorem lays_pCond (d : Nat) : Lays (pCond d) CT := lays_cond (lays_not d)
/-- A step behind some nodes. -/
theorem step_ok {inner cond : M Nat} (hi : Lays inner QT) (hc : Lays cond CT) {rows : Nat} {ts : List Tk} {ns ms : List Nd} (hq : QT ns.length ms) (hne : ms ≠ []) (hr : rows = ns.length + ms.length - 1) {a : Nat} {ts2 : List Tk} {ns2 : List Nd}
    (h : stepOf inner cond rows ts (ns ++ ms) = .ok (a, ts2, ns2)) : ∃ ms2, ns2 = ns ++ ms2 ∧ QT ns.length ms2 ∧ ms2 ≠ [] ∧ a = ns.length + ms2.length - 1 := by
  have one : ∀ (n : Nd) (x : Nat) (t3 : List Tk) (n3 : List Nd), lay n t3 (ns ++ ms) = .ok (a, ts2, n3) → (n.kind = 3 ∨ n.kind = 4 ∨ n.kind = 5 ∨ n.kind = 6) → n.l = [rows] → ∃ ms2, n3 = ns ++ ms2 ∧ QT ns.length ms2 ∧ ms2 ≠ [] ∧ a = ns.length + ms2.length - 1 := by
    intro n x t3 n3 hl hk hn
    cases hl
    exact ⟨ms ++ [n], by rw [List.append_assoc], QT.step _ _ _ hq hk (by rw [hn, hr]), by simp, by simp⟩
  have two : ∀ (n : Nd) (us : List Nd) (t3 : List Tk) (n3 : List Nd), lay n t3 (ns ++ ms ++ us) = .ok (a, ts2, n3) → (CT (ns.length + ms.length) us ∧ n.kind = 2 ∨ QT (ns.length + ms.length) us ∧ (n.kind = 7 ∨ n.kind = 8)) → us ≠ [] → n.l = [rows, ns.length + ms.length + us.length - 1] → ∃ ms2, n3 = ns ++ ms2 ∧ QT ns.length ms2 ∧ ms2 ≠ [] ∧ a = ns.length + ms2.length - 1 := by
    intro n us t3 n3 hl hk hu hn
    cases hl
    refine ⟨ms ++ us ++ [n], by simp, ?_, by simp, by simp; omega⟩
    rcases hk with ⟨hk, hkk⟩ | ⟨hk, hkk⟩
    · exact QT.where_ _ _ _ _ hq hk hkk (by rw [hn, hr])
    · exact QT.join _ _ _ _ hq hk hkk (by rw [hn, hr])
  unfold stepOf at h
  split at h
  · obtain ⟨c, ts3, ns3, h3, h4⟩ := bind_ok h
    obtain ⟨us, rfl, hu, hune, rfl⟩ := hc _ _ _ _ _ h3
    rw [List.length_append] at hu h4
    exact two _ us _ _ h4 (.inl ⟨hu, rfl⟩) hune rfl
  · obtain ⟨c, ts3, ns3, h3, h4⟩ := bind_ok h
    have e3 := still_many still_name _ _ _ _ _ h3
    subst e3
    exact one _ 0 _ _ h4 (.inl rfl) rfl
  · obtain ⟨c, ts3, ns3, h3, h4⟩ := bind_ok h
    have e3 := still_take _ _ _ _ _ _ h3
    subst e3
    exact one _ 0 _ _ h4 (.inr (.inl rfl)) rfl
  · obtain ⟨c, ts3, ns3, h3, h4⟩ := bind_ok h
    have e3 : ns3 = ns ++ ms := by
      split at h3
      · cases h3; rfl
      · exact still_many still_name _ _ _ _ _ h3
    subst e3
    obtain ⟨_, ts5, ns5, h5, h6⟩ := bind_ok h4
    have e5 := still_wants _ _ _ _ _ _ h5
    subst e5
    obtain ⟨g, ts7, ns7, h7, h8⟩ := bind_ok h6
    have e7 := still_many still_agg _ _ _ _ _ h7
    subst e7
    exact one _ 0 _ _ h8 (.inr (.inr (.inl rfl))) rfl
  · obtain ⟨c, ts3, ns3, h3, h4⟩ := bind_ok h
    have e3 := still_take _ _ _ _ _ _ h3
    subst e3
    obtain ⟨_, ts5, ns5, h5, h6⟩ := bind_ok h4
    have e5 := still_wants _ _ _ _ _ _ h5
    subst e5
    obtain ⟨g, ts7, ns7, h7, h8⟩ := bind_ok h6
    have e7 := still_take _ _ _ _ _ _ h7
    subst e7
    exact one _ 0 _ _ h8 (.inr (.inr (.inr rfl))) rfl
  · obtain ⟨_, ts3, ns3, h3, h4⟩ := bind_ok h
    have e3 := still_wants _ _ _ _ _ _ h3
    subst e3
    obtain ⟨c, ts5, ns5, h5, h6⟩ := bind_ok h4
    obtain ⟨us, rfl, hu, hune, rfl⟩ := hi _ _ _ _ _ h5
    rw [List.length_append] at hu h6
    exact two _ us _ _ h6 (.inr ⟨hu, .inl rfl⟩) hune rfl
  · obtain ⟨_, ts3, ns3, h3, h4⟩ := bind_ok h
    have e3 := still_wants _ _ _ _ _ _ h3
    subst e3
    obtain ⟨c, ts5, ns5, h5, h6⟩ := bind_ok h4
    obtain ⟨us, rfl, hu, hune, rfl⟩ := hi _ _ _ _ _ h5
    rw [List.length_append] at hu h6
    exact two _ us _ _ h6 (.inr ⟨hu, .inr rfl⟩) hune rfl
  · cases h
theorem steps_ok {inner cond : M Nat} (hi : Lays inner QT) (hc : Lays cond CT) : ∀ (k : Nat) (rows : Nat) (ts : List Tk) (ns ms : List Nd), QT ns.length ms → ms ≠ [] → rows = ns.length + ms.length - 1 → ∀ (a : Nat) (ts2 : List Tk) (ns2 : List Nd),
    stepsGo (stepOf inner cond) k rows ts (ns ++ ms) = .ok (a, ts2, ns2) → ∃ ms2, ns2 = ns ++ ms2 ∧ QT ns.length ms2 ∧ ms2 ≠ [] ∧ a = ns.length + ms2.length - 1
  | 0, rows, ts, ns, ms, hq, hne, hr, a, ts2, ns2, h => by
    cases h
    exact ⟨ms, rfl, hq, hne, hr⟩
  | k + 1, rows, ts, ns, ms, hq, hne, hr, a, ts2, ns2, h => by
    unfold stepsGo at h
    split at h
    · cases h
      exact ⟨ms, rfl, hq, hne, hr⟩
    · obtain ⟨b, ts3, ns3, h3, h4⟩ := bind_ok h
      obtain ⟨ms3, rfl, hq3, hne3, hr3⟩ := step_ok hi hc hq hne hr h3
      exact steps_ok hi hc k b ts3 ns ms3 hq3 hne3 hr3 a ts2 ns2 h4
theorem lays_queryOf {inner cond : M Nat} (hi : Lays inner QT) (hc : Lays cond CT) : Lays (queryOf (stepOf inner cond)) QT := by
  intro ts ns a ts2 ns2 h
  obtain ⟨_, ts3, ns3, h3, h4⟩ := bind_ok h
  have e3 := still_wants _ _ _ _ _ _ h3
  subst e3
  obtain ⟨t, ts5, ns5, h5, h6⟩ := bind_ok h4
  have e5 := still_take _ _ _ _ _ _ h5
  subst e5
  obtain ⟨x, ts7, ns7, h7, h8⟩ := bind_ok h6
  have e7 := still_times _ _ _ _ _ h7
  subst e7
  obtain ⟨b, ts9, ns9, h9, h10⟩ := bind_ok h8
  cases h9
  exact steps_ok hi hc _ _ _ _ [_] (QT.fetch _ _ rfl rfl) (by simp) rfl _ _ _ h10
theorem lays_inner (d : Nat) : Lays (pInner d) QT := by
  induction d with
  | zero => exact lays_deep _
  | succ d ih => exact lays_shut (lays_queryOf ih (lays_pCond d))
theorem lays_query (d : Nat) : Lays (pQuery d) QT := lays_queryOf (lays_inner d) (lays_pCond d)
/-- What is read is a tree. -/
theorem parse_tree {l : List Tok} {ns : List Nd} {n : Nat} (h : parseS l = (ns, n, 0)) : QT 0 ns ∧ ns ≠ [] ∧ ns.length ≤ 128 := by
  unfold parseS parseAll at h
  split at h
  · cases h
  · split at h
    · rename_i k e he
      cases e <;> cases h
    · rename_i a ts ns1 he
      split at h
      · cases h
      · split at h
        · cases h
        · cases h
          obtain ⟨ms, rfl, hq, hne, _⟩ := lays_query 16 _ _ _ _ _ he
          exact ⟨hq, hne, by omega⟩
end Go.Proofs.YtnaehhpikhlppaaGreatDoor.ParS

namespace Go.Proofs.YtnaehhpikhlppaaGreatDoor.ParS
open LexS

/-- All that the nodes name. -/
def named (ms : List Nd) : List Nat := ms.flatMap (·.l)
structure Tree (b : Nat) (ms : List Nd) : Prop where
  ne : ms ≠ []
  ahead : ∀ i nd, ms[i]? = some nd → ∀ c ∈ nd.l, c < b + i
  once : ∀ c, (named ms).count c = if b ≤ c ∧ c + 1 < b + ms.length then 1 else 0
theorem named_app (a c : List Nd) : named (a ++ c) = named a ++ named c := by simp [named]
theorem named_one (n : Nd) : named [n] = n.l := by simp [named]
theorem tree_leaf {b : Nat} {n : Nd} (h : n.l = []) : Tree b [n] := by
  refine ⟨by simp, fun i nd hi c hc => ?_, fun c => ?_⟩
  · match i, hi with
    | 0, hi =>
      simp only [List.getElem?_cons_zero, Option.some.injEq] at hi
      subst hi
      rw [h] at hc
      cases hc
    | i + 1, hi => simp at hi
  · rw [named_one, h, if_neg (by simp)]
    rfl
theorem last_ahead {b : Nat} {ts : List Nd} {n : Nd} (h : ∀ i nd, ts[i]? = some nd → ∀ c ∈ nd.l, c < b + i) (hn : ∀ c ∈ n.l, c < b + ts.length) : ∀ i nd, (ts ++ [n])[i]? = some nd → ∀ c ∈ nd.l, c < b + i := by
  intro i nd hi c hc
  by_cases hlt : i < ts.length
  · rw [List.getElem?_append_left hlt] at hi
    exact h i nd hi c hc
  · rw [List.getElem?_append_right (by omega)] at hi
    have he : i - ts.length = 0 := by
      rcases hk : i - ts.length with _ | k
      · rfl
      · rw [hk] at hi
        simp at hi
    rw [he] at hi
    simp only [List.getElem?_cons_zero, Option.some.injEq] at hi
    subst hi
    have := hn c hc
    omega
theorem count_one' (a c : Nat) : [a].count c = if a = c then 1 else 0 := by
  rw [List.count_cons, List.count_nil]
  by_cases h : a = c
  · simp [h]
  · simp [h]
theorem count_two' (a d c : Nat) : [a, d].count c = (if a = c then 1 else 0) + (if d = c then 1 else 0) := by
  rw [List.count_cons, count_one']
  by_cases h : a = c
  · simp [h]; omega
  · simp [h]
theorem tree_un {b : Nat} {ts : List Nd} {n : Nd} (h : Tree b ts) (hn : n.l = [b + ts.length - 1]) : Tree b (ts ++ [n]) := by
  have hl : 0 < ts.length := List.length_pos_iff.2 h.ne
  refine ⟨by simp, last_ahead h.ahead (fun c hc => ?_), fun c => ?_⟩
  · rw [hn, List.mem_singleton] at hc
    omega
  · rw [named_app, named_one, hn, List.count_append, h.once, count_one', List.length_append, List.length_singleton]
    split <;> split <;> split <;> omega
theorem tree_bin {b : Nat} {ts us : List Nd} {n : Nd} (h : Tree b ts) (k : Tree (b + ts.length) us) (hn : n.l = [b + ts.length - 1, b + ts.length + us.length - 1]) : Tree b (ts ++ us ++ [n]) := by
  have hl : 0 < ts.length := List.length_pos_iff.2 h.ne
  have hu : 0 < us.length := List.length_pos_iff.2 k.ne
  refine ⟨by simp, last_ahead (fun i nd hi c hc => ?_) (fun c hc => ?_), fun c => ?_⟩
  · by_cases hlt : i < ts.length
    · rw [List.getElem?_append_left hlt] at hi
      exact h.ahead i nd hi c hc
    · rw [List.getElem?_append_right (by omega)] at hi
      have := k.ahead _ nd hi c hc
      omega
  · rw [List.length_append]
    rw [hn] at hc
    simp only [List.mem_cons, List.not_mem_nil, or_false] at hc
    omega
  · rw [named_app, named_app, named_one, hn, List.count_append, List.count_append, h.once, k.once, count_two', List.length_append, List.length_append, List.length_singleton]
    split <;> split <;> split <;> split <;> split <;> omega
theorem tree_ct {b : Nat} {ms : List Nd} (h : CT b ms) : Tree b ms := by
  induction h with
  | leaf b n _ hl => exact tree_leaf hl
  | un b ts n _ _ hl ih => exact tree_un ih hl
  | bin b ts us n _ _ _ hl i1 i2 => exact tree_bin i1 i2 hl
theorem tree_qt {b : Nat} {ms : List Nd} (h : QT b ms) : Tree b ms := by
  induction h with
  | fetch b n _ hl => exact tree_leaf hl
  | step b ts n _ _ hl ih => exact tree_un ih hl
  | where_ b ts us n _ hc _ hl ih => exact tree_bin ih (tree_ct hc) hl
  | join b ts us n _ _ _ hl i1 i2 => exact tree_bin i1 i2 hl
end Go.Proofs.YtnaehhpikhlppaaGreatDoor.ParS
