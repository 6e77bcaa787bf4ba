/- What tokens are as a query: nodes, or an error at its place; plain lists, no program. -/
import Derived.Test.YtlonkcmkgmbkcaaDoorLexSpec
namespace Go.Proofs.YtlonkcmkgmbkcaaDoor.ParS
open LexS

/-- A token without its place. -/
structure Tk where
  kind : Nat
  s : Bytes
  n : Int
  deriving DecidableEq
def tk (t : Tok) : Tk := ⟨t.kind, t.s, t.n⟩
structure Val where
  kind : Nat
  n : Int
  s : Bytes
  deriving DecidableEq
def noVal : Val := ⟨0, 0, []⟩
structure Nd where
  kind : Nat
  s : Bytes
  n : Int
  from_ : Int
  to_ : Int
  v : Val
  l : List Nat
  names : List Bytes
  aggs : List (Nat × Bytes)
  deriving DecidableEq
def node (kind : Nat) (l : List Nat) : Nd := ⟨kind, [], 0, 0, 0, noVal, l, [], []⟩

/-- An error: how many tokens were left; is something too long? -/
abbrev Er := Nat × Bool
def codeOf (long : Bool) : Nat := if long then 2 else 120
abbrev M (α : Type) := List Tk → List Nd → Except Er (α × List Tk × List Nd)
def M.bind {α β : Type} (p : M α) (f : α → M β) : M β := fun ts ns => match p ts ns with
  | .error e => .error e
  | .ok (a, ts1, ns1) => f a ts1 ns1
def M.pure {α : Type} (a : α) : M α := fun ts ns => .ok (a, ts, ns)
def M.fail {α : Type} : M α := fun ts _ => .error (ts.length, false)
/-- What was just taken opens too much. -/
def M.deep {α : Type} : M α := fun ts _ => .error (ts.length + 1, true)

def kw_fetch : Bytes := [102, 101, 116, 99, 104]
def kw_from : Bytes := [102, 114, 111, 109]
def kw_to : Bytes := [116, 111]
def kw_bar : Bytes := [124]
def kw_comma : Bytes := [44]
def kw_open : Bytes := [40]
def kw_shut : Bytes := [41]
def kw_colon : Bytes := [58]
def kw_by : Bytes := [98, 121]
def kw_or : Bytes := [111, 114]
def kw_and : Bytes := [97, 110, 100]
def kw_not : Bytes := [110, 111, 116]
def kw_has : Bytes := [104, 97, 115]
/-- count sum min max mean merge -/
def kw_aggs : List Bytes := [[99, 111, 117, 110, 116], [115, 117, 109], [109, 105, 110], [109, 97, 120], [109, 101, 97, 110], [109, 101, 114, 103, 101]]
/-- where keep align group top join union -/
def kw_steps : List Bytes := [[119, 104, 101, 114, 101], [107, 101, 101, 112], [97, 108, 105, 103, 110], [103, 114, 111, 117, 112], [116, 111, 112], [106, 111, 105, 110], [117, 110, 105, 111, 110]]
/-- = != < <= > >= -/
def kw_signs : List Bytes := [[61], [33, 61], [60], [60, 61], [62], [62, 61]]
/-- false true -/
def kw_bools : List Bytes := [[102, 97, 108, 115, 101], [116, 114, 117, 101]]

def isW (w : Bytes) (t : Tk) : Bool := (decide (t.kind = 1) || decide (t.kind = 4)) && decide (t.s = w)
def sees (w : Bytes) : List Tk → Option (List Tk)
  | [] => none
  | t :: ts => if isW w t then some ts else none
theorem sees_cons (w : Bytes) (t : Tk) (ts : List Tk) : sees w (t :: ts) = if isW w t then some ts else none := rfl
def wants (w : Bytes) : M Unit := fun ts ns => match sees w ts with
  | some ts1 => .ok ((), ts1, ns)
  | none => .error (ts.length, false)
def take (k : Nat) : M Tk := fun ts ns => match ts with
  | [] => .error (0, false)
  | t :: ts1 => if t.kind = k then .ok (t, ts1, ns) else .error (ts1.length + 1, false)
def lay (n : Nd) : M Nat := fun ts ns => .ok (ns.length, ts, ns ++ [n])
/-- Which of some words is next, from i on; 0: none. -/
def choice : List Bytes → Nat → List Tk → Nat × List Tk
  | [], _, ts => (0, ts)
  | w :: l, i, ts => match sees w ts with
    | some ts1 => (i, ts1)
    | none => choice l (i + 1) ts

/-- More than there may be tokens. -/
def fuel : Nat := 1025
def manyGo {α : Type} (f : M α) : Nat → List α → M (List α)
  | 0, acc => M.pure acc
  | k + 1, acc => fun ts ns => match sees kw_comma ts with
    | none => .ok (acc, ts, ns)
    | some ts1 => M.bind f (fun a => manyGo f k (acc ++ [a])) ts1 ns
def many {α : Type} (f : M α) : M (List α) := M.bind f fun a ts ns => manyGo f fuel [a] ts ns
def name : M Bytes := M.bind (take 1) fun t => M.pure t.s
def names : M (List Bytes) := many name
def agg : M (Nat × Bytes) := fun ts ns => match choice kw_aggs 1 ts with
  | (0, _) => .error (ts.length, false)
  | (1, ts1) => .ok ((1, []), ts1, ns)
  | (k + 2, ts1) => M.bind (take 1) (fun t => M.pure (k + 2, t.s)) ts1 ns
def aggs : M (List (Nat × Bytes)) := many agg

def value : M Val := fun ts ns => match choice kw_bools 1 ts with
  | (1, ts1) => .ok (⟨3, 0, []⟩, ts1, ns)
  | (2, ts1) => .ok (⟨3, 1, []⟩, ts1, ns)
  | _ => match ts with
    | [] => .error (0, false)
    | t :: ts1 => if t.kind = 2 then .ok (⟨1, t.n, []⟩, ts1, ns) else if t.kind = 3 then .ok (⟨2, 0, t.s⟩, ts1, ns) else .error (ts1.length + 1, false)
/-- A condition without words about it. -/
def leaf : M Nat := M.bind (take 1) fun t ts ns => match sees kw_has ts with
  | some ts1 => M.bind (take 3) (fun u => lay { node 15 [] with s := t.s, v := ⟨2, 0, u.s⟩ }) ts1 ns
  | none => match choice kw_signs 1 ts with
    | (0, _) => .error (ts.length, false)
    | (k + 1, ts1) => M.bind value (fun v => lay { node 14 [] with s := t.s, n := ((k + 1 : Nat) : Int), v := v }) ts1 ns
def joinedGo (w : Bytes) (kind : Nat) (read : M Nat) : Nat → Nat → M Nat
  | 0, a => M.pure a
  | k + 1, a => fun ts ns => match sees w ts with
    | none => .ok (a, ts, ns)
    | some ts1 => M.bind read (fun b => M.bind (lay (node kind [a, b])) (joinedGo w kind read k)) ts1 ns
def joined (w : Bytes) (kind : Nat) (read : M Nat) : M Nat := M.bind read fun a ts ns => joinedGo w kind read fuel a ts ns
def bothOf (n : M Nat) : M Nat := joined kw_and 11 n
def condOf (n : M Nat) : M Nat := joined kw_or 12 (bothOf n)
/-- Something that a bracket shuts. -/
def shut (p : M Nat) : M Nat := M.bind p fun a => M.bind (wants kw_shut) fun _ => M.pure a
def notOf (inNot inCond : M Nat) : M Nat := fun ts ns => match sees kw_not ts with
  | some ts1 => M.bind inNot (fun a => lay (node 13 [a])) ts1 ns
  | none => match sees kw_open ts with
    | some ts1 => inCond ts1 ns
    | none => leaf ts ns
/-- How many things more may be open: d. -/
def pNot : Nat → M Nat
  | 0 => notOf M.deep M.deep
  | d + 1 => notOf (pNot d) (shut (condOf (pNot d)))
def pBoth (d : Nat) : M Nat := bothOf (pNot d)
def pCond (d : Nat) : M Nat := condOf (pNot d)

def stepOf (inner cond : M Nat) (rows : Nat) : M Nat := fun ts ns => match choice kw_steps 1 ts with
  | (1, ts1) => M.bind cond (fun c => lay (node 2 [rows, c])) ts1 ns
  | (2, ts1) => M.bind names (fun l => lay { node 3 [rows] with names := l }) ts1 ns
  | (3, ts1) => M.bind (take 2) (fun t => lay { node 4 [rows] with n := t.n }) ts1 ns
  | (4, ts1) => M.bind (fun ts2 ns2 => match sees kw_colon ts2 with
      | some _ => .ok ([], ts2, ns2)
      | none => names ts2 ns2) (fun l => M.bind (wants kw_colon) fun _ => M.bind aggs fun a => lay { node 5 [rows] with names := l, aggs := a }) ts1 ns
  | (5, ts1) => M.bind (take 2) (fun t => M.bind (wants kw_by) fun _ => M.bind (take 1) fun u => lay { node 6 [rows] with n := t.n, s := u.s }) ts1 ns
  | (6, ts1) => M.bind (wants kw_open) (fun _ => M.bind inner fun i => lay (node 7 [rows, i])) ts1 ns
  | (7, ts1) => M.bind (wants kw_open) (fun _ => M.bind inner fun i => lay (node 8 [rows, i])) ts1 ns
  | _ => .error (ts.length, false)
def stepsGo (step : Nat → M Nat) : Nat → Nat → M Nat
  | 0, a => M.pure a
  | k + 1, a => fun ts ns => match sees kw_bar ts with
    | none => .ok (a, ts, ns)
    | some ts1 => M.bind (step a) (stepsGo step k) ts1 ns
def times : M (Int × Int) := fun ts ns => match sees kw_from ts with
  | some ts1 => M.bind (take 2) (fun f => M.bind (wants kw_to) fun _ => M.bind (take 2) fun g => M.pure (f.n, g.n)) ts1 ns
  | none => .ok ((0, 1099511627775), ts, ns)
def queryOf (step : Nat → M Nat) : M Nat := M.bind (wants kw_fetch) fun _ => M.bind (take 1) fun t => M.bind times fun x =>
  M.bind (lay { node 1 [] with s := t.s, from_ := x.1, to_ := x.2 }) fun a ts ns => stepsGo step fuel a ts ns
def pInner : Nat → M Nat
  | 0 => M.deep
  | d + 1 => shut (queryOf (stepOf (pInner d) (pCond d)))
def pQuery (d : Nat) : M Nat := queryOf (stepOf (pInner d) (pCond d))

/-- All tokens: the nodes, or the number of the token where the error is, and the error. -/
def parseAll (read : M Nat) (l : List Tk) : List Nd × Nat × Nat :=
  if 1024 < l.length then ([], 0, 2) else match read l [] with
    | .error (k, e) => ([], l.length - k, codeOf e)
    | .ok (_, ts, ns) => if ts ≠ [] then ([], l.length - ts.length, 120) else if 128 < ns.length then ([], 0, 2) else (ns, 0, 0)
def parseS (l : List Tok) : List Nd × Nat × Nat := parseAll (pQuery 16) (l.map tk)
def condS (l : List Tok) : List Nd × Nat × Nat := parseAll (pCond 16) (l.map tk)
/-- A text: the nodes, or the byte where the error is, and the error. -/
def queryS (s : Bytes) : List Nd × Nat × Nat := match lexS s with
  | (l, at_, e) => if e ≠ 0 then ([], at_, e) else match parseS l with
    | (ns, n, f) => if f = 0 then (ns, 0, 0) else match l[n]? with
      | some t => (ns, t.at_, f)
      | none => (ns, s.length, f)

theorem ex_query : queryS [102, 101, 116, 99, 104, 32, 120] = ([{ node 1 [] with s := [120], to_ := 1099511627775 }], 0, 0) := by decide +kernel
end Go.Proofs.YtlonkcmkgmbkcaaDoor.ParS
