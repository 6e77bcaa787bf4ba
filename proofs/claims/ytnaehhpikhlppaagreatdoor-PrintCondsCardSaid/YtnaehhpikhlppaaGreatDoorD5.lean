/- Several texts of the proof, joined. -/
import Derived.Test.YtnaehhpikhlppaaGreatDoorD4
set_option maxHeartbeats 4000000
set_option linter.unusedVariables false
set_option linter.unusedSimpArgs false
namespace Go.Proofs.YtnaehhpikhlppaaGreatDoor.ParS
open LexS

inductive Cd where
  | cmp (s : Bytes) (n : Nat) (v : Val)
  | has (s t : Bytes)
  | not (c : Cd)
  | and (a b : Cd)
  | or (a b : Cd)
inductive Qr where
  | fetch (s : Bytes) (f t : Int)
  | where_ (q : Qr) (c : Cd)
  | keep (q : Qr) (l : List Bytes)
  | align (q : Qr) (n : Int)
  | group (q : Qr) (l : List Bytes) (g : List (Nat × Bytes))
  | top (q : Qr) (n : Int) (s : Bytes)
  | join (q r : Qr)
  | union (q r : Qr)
/-! Their nodes. -/
def Cd.len : Cd → Nat
  | .cmp _ _ _ => 1
  | .has _ _ => 1
  | .not c => c.len + 1
  | .and a b => a.len + b.len + 1
  | .or a b => a.len + b.len + 1
def Cd.flat : Nat → Cd → List Nd
  | _, .cmp s n v => [{ node 14 [] with s := s, n := (n : Int), v := v }]
  | _, .has s t => [{ node 15 [] with s := s, v := ⟨2, 0, t⟩ }]
  | b, .not c => c.flat b ++ [node 13 [b + c.len - 1]]
  | b, .and x y => x.flat b ++ y.flat (b + x.len) ++ [node 11 [b + x.len - 1, b + x.len + y.len - 1]]
  | b, .or x y => x.flat b ++ y.flat (b + x.len) ++ [node 12 [b + x.len - 1, b + x.len + y.len - 1]]
def Qr.len : Qr → Nat
  | .fetch _ _ _ => 1
  | .where_ q c => q.len + c.len + 1
  | .keep q _ => q.len + 1
  | .align q _ => q.len + 1
  | .group q _ _ => q.len + 1
  | .top q _ _ => q.len + 1
  | .join q r => q.len + r.len + 1
  | .union q r => q.len + r.len + 1
def Qr.flat : Nat → Qr → List Nd
  | _, .fetch s f t => [{ node 1 [] with s := s, from_ := f, to_ := t }]
  | b, .where_ q c => q.flat b ++ c.flat (b + q.len) ++ [node 2 [b + q.len - 1, b + q.len + c.len - 1]]
  | b, .keep q l => q.flat b ++ [{ node 3 [b + q.len - 1] with names := l }]
  | b, .align q n => q.flat b ++ [{ node 4 [b + q.len - 1] with n := n }]
  | b, .group q l g => q.flat b ++ [{ node 5 [b + q.len - 1] with names := l, aggs := g }]
  | b, .top q n s => q.flat b ++ [{ node 6 [b + q.len - 1] with n := n, s := s }]
  | b, .join q r => q.flat b ++ r.flat (b + q.len) ++ [node 7 [b + q.len - 1, b + q.len + r.len - 1]]
  | b, .union q r => q.flat b ++ r.flat (b + q.len) ++ [node 8 [b + q.len - 1, b + q.len + r.len - 1]]
theorem Cd.pos : ∀ c : Cd, 0 < c.len
  | .cmp _ _ _ => Nat.one_pos
  | .has _ _ => Nat.one_pos
  | .not _ => Nat.succ_pos _
  | .and _ _ => Nat.succ_pos _
  | .or _ _ => Nat.succ_pos _
theorem Qr.pos : ∀ q : Qr, 0 < q.len
  | .fetch _ _ _ => Nat.one_pos
  | .where_ _ _ => Nat.succ_pos _
  | .keep _ _ => Nat.succ_pos _
  | .align _ _ => Nat.succ_pos _
  | .group _ _ _ => Nat.succ_pos _
  | .top _ _ _ => Nat.succ_pos _
  | .join _ _ => Nat.succ_pos _
  | .union _ _ => Nat.succ_pos _
theorem Cd.flat_len : ∀ (c : Cd) (b : Nat), (c.flat b).length = c.len
  | .cmp _ _ _, _ => rfl
  | .has _ _, _ => rfl
  | .not c, b => by simp [Cd.flat, Cd.len, c.flat_len b]
  | .and x y, b => by simp [Cd.flat, Cd.len, x.flat_len b, y.flat_len (b + x.len)]; omega
  | .or x y, b => by simp [Cd.flat, Cd.len, x.flat_len b, y.flat_len (b + x.len)]; omega
theorem Qr.flat_len : ∀ (q : Qr) (b : Nat), (q.flat b).length = q.len
  | .fetch _ _ _, _ => rfl
  | .where_ q c, b => by simp [Qr.flat, Qr.len, q.flat_len b, c.flat_len (b + q.len)]; omega
  | .keep q _, b => by simp [Qr.flat, Qr.len, q.flat_len b]
  | .align q _, b => by simp [Qr.flat, Qr.len, q.flat_len b]
  | .group q _ _, b => by simp [Qr.flat, Qr.len, q.flat_len b]
  | .top q _ _, b => by simp [Qr.flat, Qr.len, q.flat_len b]
  | .join q r, b => by simp [Qr.flat, Qr.len, q.flat_len b, r.flat_len (b + q.len)]; omega
  | .union q r, b => by simp [Qr.flat, Qr.len, q.flat_len b, r.flat_len (b + q.len)]; omega
/-! Their tokens, as they are printed. -/
def wd (s : Bytes) : Tk := ⟨1, s, 0⟩
def sg (s : Bytes) : Tk := ⟨4, s, 0⟩
def nm (n : Int) : Tk := ⟨2, [], n⟩
def tx (s : Bytes) : Tk := ⟨3, s, 0⟩
def signW (n : Nat) : Bytes := kw_signs.getD (n - 1) []
def stepW (k : Nat) : Bytes := kw_steps.getD (k - 2) []
def aggW (k : Nat) : Bytes := kw_aggs.getD (k - 1) []
def valT (v : Val) : List Tk := if v.kind = 1 then [nm v.n] else if v.kind = 2 then [tx v.s] else [wd (if v.n = 1 then [116, 114, 117, 101] else [102, 97, 108, 115, 101])]
def Cd.rank : Cd → Nat
  | .or _ _ => 1
  | .and _ _ => 2
  | _ => 3
/-- A condition's tokens, without brackets about it; with them, if it holds less tight than wanted. -/
def brk (rank wanted : Nat) (l : List Tk) : List Tk := if rank < wanted then [sg kw_open] ++ l ++ [sg kw_shut] else l
def Cd.body : Cd → List Tk
  | .cmp s n v => [wd s, sg (signW n)] ++ valT v
  | .has s t => [wd s, wd kw_has, tx t]
  | .not c => [wd kw_not] ++ brk c.rank 3 c.body
  | .and a b => brk a.rank 2 a.body ++ [wd kw_and] ++ brk b.rank 3 b.body
  | .or a b => brk a.rank 1 a.body ++ [wd kw_or] ++ brk b.rank 2 b.body
def Cd.tok (w : Nat) (c : Cd) : List Tk := brk c.rank w c.body
/-- What stands between commas. -/
def sep (l : List (List Tk)) : List Tk := match l with
  | [] => []
  | x :: r => x ++ r.flatMap fun y => sg kw_comma :: y
def aggT (a : Nat × Bytes) : List Tk := if a.1 = 1 then [wd (aggW 1)] else [wd (aggW a.1), wd a.2]
def namesT (l : List Bytes) : List Tk := sep (l.map fun s => [wd s])
def aggsT (l : List (Nat × Bytes)) : List Tk := sep (l.map aggT)
def Qr.tok : Qr → List Tk
  | .fetch s f t => [wd kw_fetch, wd s] ++ if f = 0 ∧ t = 1099511627775 then [] else [wd kw_from, nm f, wd kw_to, nm t]
  | .where_ q c => q.tok ++ [sg kw_bar, wd (stepW 2)] ++ c.tok 0
  | .keep q l => q.tok ++ [sg kw_bar, wd (stepW 3)] ++ namesT l
  | .align q n => q.tok ++ [sg kw_bar, wd (stepW 4), nm n]
  | .group q l g => q.tok ++ [sg kw_bar, wd (stepW 5)] ++ namesT l ++ [sg kw_colon] ++ aggsT g
  | .top q n s => q.tok ++ [sg kw_bar, wd (stepW 6), nm n, wd kw_by, wd s]
  | .join q r => q.tok ++ [sg kw_bar, wd (stepW 7), sg kw_open] ++ r.tok ++ [sg kw_shut]
  | .union q r => q.tok ++ [sg kw_bar, wd (stepW 8), sg kw_open] ++ r.tok ++ [sg kw_shut]
/-! What may be read so. -/
def ValOk (v : Val) : Prop := (v.kind = 1 ∧ v.s = []) ∨ (v.kind = 2 ∧ v.n = 0) ∨ (v.kind = 3 ∧ v.s = [] ∧ (v.n = 0 ∨ v.n = 1))
def ColOk (s : Bytes) : Prop := s ≠ kw_not ∧ s ≠ kw_open
def Cd.Ok : Cd → Prop
  | .cmp s n v => ColOk s ∧ 1 ≤ n ∧ n ≤ 6 ∧ ValOk v
  | .has s _ => ColOk s
  | .not c => c.Ok
  | .and a b => a.Ok ∧ b.Ok
  | .or a b => a.Ok ∧ b.Ok
def AggOk (a : Nat × Bytes) : Prop := a = (1, []) ∨ (2 ≤ a.1 ∧ a.1 ≤ 6)
def Qr.Ok : Qr → Prop
  | .fetch _ _ _ => True
  | .where_ q c => q.Ok ∧ c.Ok
  | .keep q l => q.Ok ∧ l ≠ []
  | .align q _ => q.Ok
  | .group q l g => q.Ok ∧ (∀ s, l.head? = some s → s ≠ kw_colon) ∧ g ≠ [] ∧ ∀ a ∈ g, AggOk a
  | .top q _ _ => q.Ok
  | .join q r => q.Ok ∧ r.Ok
  | .union q r => q.Ok ∧ r.Ok
/-! How much is open within. -/
def brkN (rank wanted n : Nat) : Nat := if rank < wanted then n + 1 else n
def Cd.deepB : Cd → Nat
  | .cmp _ _ _ => 0
  | .has _ _ => 0
  | .not c => brkN c.rank 3 c.deepB + 1
  | .and a b => max (brkN a.rank 2 a.deepB) (brkN b.rank 3 b.deepB)
  | .or a b => max (brkN a.rank 1 a.deepB) (brkN b.rank 2 b.deepB)
def Cd.deep (w : Nat) (c : Cd) : Nat := brkN c.rank w c.deepB
def Qr.deep : Qr → Nat
  | .fetch _ _ _ => 0
  | .where_ q c => max q.deep (c.deep 0)
  | .keep q _ => q.deep
  | .align q _ => q.deep
  | .group q _ _ => q.deep
  | .top q _ _ => q.deep
  | .join q r => max q.deep (r.deep + 1)
  | .union q r => max q.deep (r.deep + 1)
theorem Cd.rank_pos (c : Cd) : 1 ≤ c.rank := by cases c <;> simp [Cd.rank]
theorem Cd.tok0 (c : Cd) : c.tok 0 = c.body := by unfold Cd.tok brk; rw [if_neg (by omega)]
theorem Cd.tok1 (c : Cd) : c.tok 1 = c.body := by unfold Cd.tok brk; rw [if_neg (by have := c.rank_pos; omega)]
theorem Cd.deep0 (c : Cd) : c.deep 0 = c.deepB := by unfold Cd.deep brkN; rw [if_neg (by omega)]
theorem Cd.deep1 (c : Cd) : c.deep 1 = c.deepB := by unfold Cd.deep brkN; rw [if_neg (by have := c.rank_pos; omega)]
/-! Reading them again. -/
theorem isW_wd (w s : Bytes) : isW w (wd s) = decide (s = w) := rfl
theorem isW_sg (w s : Bytes) : isW w (sg s) = decide (s = w) := rfl
theorem isW_nm (w : Bytes) (n : Int) : isW w (nm n) = false := by simp [isW, nm]
theorem isW_tx (w s : Bytes) : isW w (tx s) = false := by simp [isW, tx]
theorem sees_wd (w s : Bytes) (r : List Tk) : sees w (wd s :: r) = if s = w then some r else none := by rw [sees_cons, isW_wd]; simp
theorem sees_sg (w s : Bytes) (r : List Tk) : sees w (sg s :: r) = if s = w then some r else none := by rw [sees_cons, isW_sg]; simp
theorem sees_nm (w : Bytes) (n : Int) (r : List Tk) : sees w (nm n :: r) = none := by rw [sees_cons, isW_nm]; rfl
theorem sees_tx (w s : Bytes) (r : List Tk) : sees w (tx s :: r) = none := by rw [sees_cons, isW_tx]; rfl
def NoOr (r : List Tk) : Prop := sees kw_or r = none ∧ sees kw_and r = none
theorem value_back {v : Val} (h : ValOk v) (rest : List Tk) (ns : List Nd) : value (valT v ++ rest) ns = .ok (v, rest, ns) := by
  obtain ⟨k, n, s⟩ := v
  unfold ValOk at h
  dsimp only at h
  rcases h with ⟨rfl, rfl⟩ | ⟨rfl, rfl⟩ | ⟨rfl, rfl, rfl | rfl⟩
  · simp [valT, value, kw_bools, choice, sees_nm]
    rfl
  · simp [valT, value, kw_bools, choice, sees_tx]
    rfl
  · simp [valT, value, kw_bools, choice, sees_wd]
  · simp [valT, value, kw_bools, choice, sees_wd]
theorem choice_sign {n : Nat} (h1 : 1 ≤ n) (h2 : n ≤ 6) (rest : List Tk) : choice kw_signs 1 (sg (signW n) :: rest) = (n, rest) := by
  have : n = 1 ∨ n = 2 ∨ n = 3 ∨ n = 4 ∨ n = 5 ∨ n = 6 := by omega
  rcases this with rfl | rfl | rfl | rfl | rfl | rfl <;> simp [signW, kw_signs, choice, sees_sg]
theorem sign_no_has {n : Nat} (h1 : 1 ≤ n) (h2 : n ≤ 6) (rest : List Tk) : sees kw_has (sg (signW n) :: rest) = none := by
  have : n = 1 ∨ n = 2 ∨ n = 3 ∨ n = 4 ∨ n = 5 ∨ n = 6 := by omega
  rcases this with rfl | rfl | rfl | rfl | rfl | rfl <;> simp [signW, kw_signs, kw_has, sees_sg]
theorem bind_of {α β : Type} {p : M α} {f : α → M β} {ts : List Tk} {ns : List Nd} {a : α} {ts1 : List Tk} {ns1 : List Nd} (h : p ts ns = .ok (a, ts1, ns1)) : M.bind p f ts ns = f a ts1 ns1 := by
  unfold M.bind
  rw [h]
theorem take_of {k : Nat} {t : Tk} {ts : List Tk} {ns : List Nd} (h : t.kind = k) : take k (t :: ts) ns = .ok (t, ts, ns) := if_pos h
theorem leaf_cmp {s : Bytes} {n : Nat} {v : Val} (h1 : 1 ≤ n) (h2 : n ≤ 6) (hv : ValOk v) (rest : List Tk) (ns : List Nd) : leaf ([wd s, sg (signW n)] ++ valT v ++ rest) ns = .ok (ns.length, rest, ns ++ [{ node 14 [] with s := s, n := (n : Int), v := v }]) := by
  obtain ⟨k, rfl⟩ : ∃ k, n = k + 1 := ⟨n - 1, by omega⟩
  rw [List.append_assoc]
  show M.bind (take 1) _ (wd s :: sg (signW (k + 1)) :: (valT v ++ rest)) ns = _
  rw [bind_of (take_of (k := 1) (t := wd s) rfl), sign_no_has h1 h2]
  dsimp only
  rw [choice_sign h1 h2]
  dsimp only
  rw [bind_of (value_back hv rest ns)]
  rfl
theorem leaf_has {s t : Bytes} (rest : List Tk) (ns : List Nd) : leaf ([wd s, wd kw_has, tx t] ++ rest) ns = .ok (ns.length, rest, ns ++ [{ node 15 [] with s := s, v := ⟨2, 0, t⟩ }]) := by
  show M.bind (take 1) _ (wd s :: wd kw_has :: tx t :: rest) ns = _
  rw [bind_of (take_of (k := 1) (t := wd s) rfl), sees_wd, if_pos rfl]
  dsimp only
  rw [bind_of (take_of (k := 3) (t := tx t) rfl)]
  rfl
end Go.Proofs.YtnaehhpikhlppaaGreatDoor.ParS

namespace Go.Proofs.YtnaehhpikhlppaaGreatDoor.ParS
open LexS

def Cd.ands : Cd → Nat
  | .and a _ => a.ands + 1
  | _ => 0
def Cd.ors : Cd → Nat
  | .or a _ => a.ors + 1
  | _ => 0
theorem Cd.ands_le : ∀ c : Cd, c.ands ≤ c.len
  | .cmp _ _ _ => Nat.zero_le _
  | .has _ _ => Nat.zero_le _
  | .not _ => Nat.zero_le _
  | .and a b => by have := a.ands_le; simp [Cd.ands, Cd.len]; omega
  | .or _ _ => Nat.zero_le _
theorem Cd.ors_le : ∀ c : Cd, c.ors ≤ c.len
  | .cmp _ _ _ => Nat.zero_le _
  | .has _ _ => Nat.zero_le _
  | .not _ => Nat.zero_le _
  | .or a b => by have := a.ors_le; simp [Cd.ors, Cd.len]; omega
  | .and _ _ => Nat.zero_le _
theorem go_stop {w : Bytes} {kind : Nat} {read : M Nat} {ts : List Tk} (h : sees w ts = none) (k a : Nat) (ns : List Nd) : joinedGo w kind read k a ts ns = .ok (a, ts, ns) := by
  cases k with
  | zero => rfl
  | succ k =>
    show (match sees w ts with | none => _ | some _ => _) = _
    rw [h]
theorem go_next {w : Bytes} {kind : Nat} {read : M Nat} {ts ts1 ts2 : List Tk} {k a b : Nat} {ns ns1 : List Nd} (h : sees w ts = some ts1) (hr : read ts1 ns = .ok (b, ts2, ns1)) : joinedGo w kind read (k + 1) a ts ns = joinedGo w kind read k ns1.length ts2 (ns1 ++ [node kind [a, b]]) := by
  show (match sees w ts with | none => _ | some ts1 => _) = _
  rw [h]
  dsimp only
  rw [bind_of hr, bind_of (show lay (node kind [a, b]) ts2 ns1 = .ok (ns1.length, ts2, ns1 ++ [node kind [a, b]]) from rfl)]
theorem pNot_eq (d : Nat) : ∃ p q, pNot d = notOf p q := by
  cases d with
  | zero => exact ⟨_, _, rfl⟩
  | succ d => exact ⟨_, _, rfl⟩
theorem notOf_not {p q : M Nat} {ts ts1 : List Tk} (h : sees kw_not ts = some ts1) (ns : List Nd) : notOf p q ts ns = M.bind p (fun a => lay (node 13 [a])) ts1 ns := by
  unfold notOf
  rw [h]
theorem notOf_open {p q : M Nat} {ts ts1 : List Tk} (h : sees kw_not ts = none) (h2 : sees kw_open ts = some ts1) (ns : List Nd) : notOf p q ts ns = q ts1 ns := by
  unfold notOf
  rw [h]
  dsimp only
  rw [h2]
theorem not_leaf {p q : M Nat} {s : Bytes} (h : ColOk s) (r : List Tk) (ns : List Nd) : notOf p q (wd s :: r) ns = leaf (wd s :: r) ns := by
  show (match sees kw_not (wd s :: r) with | some _ => _ | none => _) = _
  rw [sees_wd, if_neg h.1]
  dsimp only
  rw [sees_wd, if_neg h.2]
def P3 (c : Cd) : Prop := ∀ d, c.deep 3 ≤ d → ∀ rest ns, pNot d (c.tok 3 ++ rest) ns = .ok (ns.length + c.len - 1, rest, ns ++ c.flat ns.length)
def P2 (c : Cd) : Prop := ∀ d, c.deep 2 ≤ d → ∀ k rest ns, c.ands ≤ k → M.bind (pNot d) (fun a ts ns => joinedGo kw_and 11 (pNot d) k a ts ns) (c.tok 2 ++ rest) ns = joinedGo kw_and 11 (pNot d) (k - c.ands) (ns.length + c.len - 1) rest (ns ++ c.flat ns.length)
def P1 (c : Cd) : Prop := ∀ d, c.deep 1 ≤ d → ∀ k rest ns, c.ors ≤ k → sees kw_and rest = none → M.bind (bothOf (pNot d)) (fun a ts ns => joinedGo kw_or 12 (bothOf (pNot d)) k a ts ns) (c.tok 1 ++ rest) ns = joinedGo kw_or 12 (bothOf (pNot d)) (k - c.ors) (ns.length + c.len - 1) rest (ns ++ c.flat ns.length)
section
variable {c : Cd}
theorem both_back (h : P2 c) (hl : c.len ≤ 1000) {d : Nat} (hd : c.deep 2 ≤ d) {rest : List Tk} (hr : sees kw_and rest = none) (ns : List Nd) : bothOf (pNot d) (c.tok 2 ++ rest) ns = .ok (ns.length + c.len - 1, rest, ns ++ c.flat ns.length) := by
  have h1 := c.ands_le
  have := h d hd fuel rest ns (by unfold fuel; omega)
  rw [go_stop hr] at this
  exact this
theorem cond_back (h : P1 c) (hl : c.len ≤ 1000) {d : Nat} (hd : c.deepB ≤ d) {rest : List Tk} (hr : NoOr rest) (ns : List Nd) : pCond d (c.body ++ rest) ns = .ok (ns.length + c.len - 1, rest, ns ++ c.flat ns.length) := by
  have h1 := c.ors_le
  have := h d (by rw [c.deep1]; exact hd) fuel rest ns (by unfold fuel; omega) hr.2
  rw [go_stop hr.1, c.tok1] at this
  exact this
theorem p2_of (h : P3 c) (h1 : c.tok 2 = c.tok 3) (h2 : c.deep 2 = c.deep 3) (h3 : c.ands = 0) : P2 c := by
  intro d hd k rest ns _
  rw [h1, bind_of (h d (by rw [← h2]; exact hd) rest ns), h3, Nat.sub_zero]
theorem p1_of (h : P2 c) (hl : c.len ≤ 1000) (h1 : c.tok 1 = c.tok 2) (h2 : c.deep 1 = c.deep 2) (h3 : c.ors = 0) : P1 c := by
  intro d hd k rest ns _ hr
  rw [h1, bind_of (both_back h hl (by rw [← h2]; exact hd) hr ns), h3, Nat.sub_zero]
theorem p3_brk (h : P1 c) (hl : c.len ≤ 1000) (hr : c.rank < 3) : P3 c := by
  intro d hd rest ns
  have e1 : c.tok 3 = [sg kw_open] ++ c.body ++ [sg kw_shut] := by unfold Cd.tok brk; rw [if_pos hr]
  have e2 : c.deep 3 = c.deepB + 1 := by unfold Cd.deep brkN; rw [if_pos hr]
  obtain ⟨d, rfl⟩ : ∃ d', d = d' + 1 := ⟨d - 1, by omega⟩
  rw [e1]
  show notOf (pNot d) (shut (condOf (pNot d))) (sg kw_open :: (c.body ++ [sg kw_shut] ++ rest)) ns = _
  rw [notOf_open (ts1 := c.body ++ [sg kw_shut] ++ rest) (by rw [sees_sg, if_neg (by decide)]) (by rw [sees_sg, if_pos rfl])]
  have hc := cond_back h hl (d := d) (by omega) (rest := sg kw_shut :: rest) ⟨by rw [sees_sg, if_neg (by decide)], by rw [sees_sg, if_neg (by decide)]⟩ ns
  rw [List.append_assoc]
  show M.bind (pCond d) _ (c.body ++ (sg kw_shut :: rest)) ns = _
  rw [bind_of hc, bind_of (show wants kw_shut (sg kw_shut :: rest) (ns ++ c.flat ns.length) = .ok ((), rest, ns ++ c.flat ns.length) from rfl)]
  rfl
end
theorem cond_all : ∀ (c : Cd), c.Ok → c.len ≤ 1000 → P3 c ∧ P2 c ∧ P1 c
  | .cmp s n v, ok, hl => by
    obtain ⟨o1, o2, o3, o4⟩ := ok
    have h3 : P3 (.cmp s n v) := by
      intro d _ rest ns
      obtain ⟨p, q, e⟩ := pNot_eq d
      have e1 : Cd.tok 3 (.cmp s n v) = [wd s, sg (signW n)] ++ valT v := rfl
      rw [e, e1]
      refine (not_leaf o1 _ ns).trans ?_
      have := leaf_cmp (s := s) o2 o3 o4 rest ns
      exact this
    have h2 := p2_of h3 rfl rfl rfl
    exact ⟨h3, h2, p1_of h2 hl rfl rfl rfl⟩
  | .has s t, ok, hl => by
    have h3 : P3 (.has s t) := by
      intro d _ rest ns
      obtain ⟨p, q, e⟩ := pNot_eq d
      have e1 : Cd.tok 3 (.has s t) = [wd s, wd kw_has, tx t] := rfl
      rw [e, e1]
      refine (not_leaf ok _ ns).trans ?_
      have := leaf_has (s := s) (t := t) rest ns
      exact this
    have h2 := p2_of h3 rfl rfl rfl
    exact ⟨h3, h2, p1_of h2 hl rfl rfl rfl⟩
  | .not c, ok, hl => by
    have hlc : c.len ≤ 1000 := by have : c.len + 1 ≤ 1000 := hl; omega
    obtain ⟨i3, _, _⟩ := cond_all c ok hlc
    have h3 : P3 (.not c) := by
      intro d hd rest ns
      have e2 : Cd.deep 3 (.not c) = c.deep 3 + 1 := rfl
      obtain ⟨d, rfl⟩ : ∃ d', d = d' + 1 := ⟨d - 1, by omega⟩
      have e1 : Cd.tok 3 (.not c) = [wd kw_not] ++ c.tok 3 := rfl
      rw [e1]
      show notOf (pNot d) _ (wd kw_not :: (c.tok 3 ++ rest)) ns = _
      rw [notOf_not (ts1 := c.tok 3 ++ rest) (by rw [sees_wd, if_pos rfl])]
      rw [bind_of (i3 d (by omega) rest ns)]
      have hp := c.pos
      show Except.ok ((ns ++ c.flat ns.length).length, rest, ns ++ c.flat ns.length ++ [node 13 [ns.length + c.len - 1]]) = _
      rw [List.length_append, c.flat_len]
      show _ = Except.ok (ns.length + (c.len + 1) - 1, rest, ns ++ (c.flat ns.length ++ [node 13 [ns.length + c.len - 1]]))
      rw [List.append_assoc, show ns.length + (c.len + 1) - 1 = ns.length + c.len by omega]
    have h2 := p2_of h3 rfl rfl rfl
    exact ⟨h3, h2, p1_of h2 hl rfl rfl rfl⟩
  | .and a b, ok, hl => by
    have hl' : a.len + b.len + 1 ≤ 1000 := hl
    obtain ⟨_, a2, _⟩ := cond_all a ok.1 (by omega)
    obtain ⟨b3, _, _⟩ := cond_all b ok.2 (by omega)
    have h2 : P2 (.and a b) := by
      intro d hd k rest ns hk
      have e1 : Cd.tok 2 (.and a b) = a.tok 2 ++ [wd kw_and] ++ b.tok 3 := rfl
      have e2 : Cd.deep 2 (.and a b) = max (a.deep 2) (b.deep 3) := rfl
      have e3 : Cd.ands (.and a b) = a.ands + 1 := rfl
      rw [e2] at hd
      rw [e3] at hk ⊢
      rw [e1, List.append_assoc, List.append_assoc, a2 d (by omega) k _ ns (by omega)]
      obtain ⟨m, hm⟩ : ∃ m, k - a.ands = m + 1 := ⟨k - a.ands - 1, by omega⟩
      rw [hm, go_next (ts1 := b.tok 3 ++ rest) (by show sees kw_and (wd kw_and :: (b.tok 3 ++ rest)) = _; rw [sees_wd, if_pos rfl]) (b3 d (by omega) rest _)]
      have hp := b.pos
      have hq := a.pos
      rw [show k - (a.ands + 1) = m by omega, List.length_append, List.length_append, a.flat_len, b.flat_len]
      show joinedGo kw_and 11 (pNot d) m (ns.length + a.len + b.len) rest _ = joinedGo kw_and 11 (pNot d) m (ns.length + (a.len + b.len + 1) - 1) rest (ns ++ (a.flat ns.length ++ b.flat (ns.length + a.len) ++ [node 11 [ns.length + a.len - 1, ns.length + a.len + b.len - 1]]))
      rw [show ns.length + (a.len + b.len + 1) - 1 = ns.length + a.len + b.len by omega]
      simp only [List.append_assoc]
    have h1 := p1_of h2 hl rfl rfl rfl
    exact ⟨p3_brk h1 hl (by decide : (2 : Nat) < 3), h2, h1⟩
  | .or a b, ok, hl => by
    have hl' : a.len + b.len + 1 ≤ 1000 := hl
    obtain ⟨_, _, a1⟩ := cond_all a ok.1 (by omega)
    obtain ⟨_, b2, _⟩ := cond_all b ok.2 (by omega)
    have h1 : P1 (.or a b) := by
      intro d hd k rest ns hk hr
      have e1 : Cd.tok 1 (.or a b) = a.tok 1 ++ [wd kw_or] ++ b.tok 2 := rfl
      have e2 : Cd.deep 1 (.or a b) = max (a.deep 1) (b.deep 2) := rfl
      have e3 : Cd.ors (.or a b) = a.ors + 1 := rfl
      rw [e2] at hd
      rw [e3] at hk ⊢
      rw [e1, List.append_assoc, List.append_assoc, a1 d (by omega) k _ ns (by omega) (by show sees kw_and (wd kw_or :: _) = _; rw [sees_wd, if_neg (by decide)])]
      obtain ⟨m, hm⟩ : ∃ m, k - a.ors = m + 1 := ⟨k - a.ors - 1, by omega⟩
      rw [hm, go_next (ts1 := b.tok 2 ++ rest) (by show sees kw_or (wd kw_or :: (b.tok 2 ++ rest)) = _; rw [sees_wd, if_pos rfl]) (both_back b2 (by omega) (by omega) hr _)]
      have hp := b.pos
      have hq := a.pos
      rw [show k - (a.ors + 1) = m by omega, List.length_append, List.length_append, a.flat_len, b.flat_len]
      show joinedGo kw_or 12 (bothOf (pNot d)) m (ns.length + a.len + b.len) rest _ = joinedGo kw_or 12 (bothOf (pNot d)) m (ns.length + (a.len + b.len + 1) - 1) rest (ns ++ (a.flat ns.length ++ b.flat (ns.length + a.len) ++ [node 12 [ns.length + a.len - 1, ns.length + a.len + b.len - 1]]))
      rw [show ns.length + (a.len + b.len + 1) - 1 = ns.length + a.len + b.len by omega]
      simp only [List.append_assoc]
    have h3 := p3_brk h1 hl (by decide : (1 : Nat) < 3)
    exact ⟨h3, p2_of h3 rfl rfl rfl, h1⟩
end Go.Proofs.YtnaehhpikhlppaaGreatDoor.ParS

namespace Go.Proofs.YtnaehhpikhlppaaGreatDoor.ParS
open LexS

def Stop (r : List Tk) : Prop := r = [] ∨ (∃ t, r = sg kw_bar :: t) ∨ ∃ t, r = sg kw_shut :: t
theorem stop_sees {r : List Tk} (h : Stop r) {w : Bytes} (h1 : kw_bar ≠ w) (h2 : kw_shut ≠ w) : sees w r = none := by
  rcases h with rfl | ⟨t, rfl⟩ | ⟨t, rfl⟩
  · rfl
  · rw [sees_sg, if_neg h1]
  · rw [sees_sg, if_neg h2]
theorem stop_or {r : List Tk} (h : Stop r) : NoOr r := ⟨stop_sees h (by decide) (by decide), stop_sees h (by decide) (by decide)⟩
theorem wants_of {w : Bytes} {ts ts1 : List Tk} (h : sees w ts = some ts1) (ns : List Nd) : wants w ts ns = .ok ((), ts1, ns) := by
  unfold wants
  rw [h]
/-! Lists. -/
theorem many_some {α : Type} {f : M α} {k : Nat} {acc : List α} {ts ts1 : List Tk} (h : sees kw_comma ts = some ts1) (ns : List Nd) : manyGo f (k + 1) acc ts ns = M.bind f (fun a => manyGo f k (acc ++ [a])) ts1 ns := by
  show (match sees kw_comma ts with | none => Except.ok (acc, ts, ns) | some ts1 => M.bind f (fun a => manyGo f k (acc ++ [a])) ts1 ns) = _
  rw [h]
theorem many_go {α : Type} {f : M α} {T : α → List Tk} (hf : ∀ x r ns, f (T x ++ r) ns = .ok (x, r, ns)) {rest : List Tk} (hr : sees kw_comma rest = none) (ns : List Nd) : ∀ (xs acc : List α) (k : Nat), xs.length ≤ k → manyGo f k acc ((xs.flatMap fun x => sg kw_comma :: T x) ++ rest) ns = .ok (acc ++ xs, rest, ns)
  | [], acc, k, _ => by
    cases k with
    | zero => simp [manyGo, M.pure]
    | succ k =>
      show (match sees kw_comma rest with | none => Except.ok (acc, rest, ns) | some ts1 => _) = _
      rw [hr]
      simp
  | x :: xs, acc, 0, h => by simp at h
  | x :: xs, acc, k + 1, h => by
    have e : ((x :: xs).flatMap fun x => sg kw_comma :: T x) ++ rest = sg kw_comma :: (T x ++ ((xs.flatMap fun x => sg kw_comma :: T x) ++ rest)) := by simp
    rw [e]
    rw [many_some (by rw [sees_sg, if_pos rfl]), bind_of (hf x _ ns), many_go hf hr ns xs (acc ++ [x]) k (by simpa using h)]
    simp
theorem many_back {α : Type} {f : M α} {T : α → List Tk} (hf : ∀ x r ns, f (T x ++ r) ns = .ok (x, r, ns)) {rest : List Tk} (hr : sees kw_comma rest = none) (ns : List Nd) (xs : List α) (hne : xs ≠ []) (hl : xs.length ≤ 1025) : many f (sep (xs.map T) ++ rest) ns = .ok (xs, rest, ns) := by
  cases xs with
  | nil => exact absurd rfl hne
  | cons x xs =>
    have e : sep ((x :: xs).map T) ++ rest = T x ++ ((xs.flatMap fun x => sg kw_comma :: T x) ++ rest) := by
      simp [sep, List.flatMap_map]
    rw [e]
    unfold many
    rw [bind_of (hf x _ ns), many_go hf hr ns xs [x] fuel (by unfold fuel; simp at hl; omega)]
    rfl
theorem name_back (s : Bytes) (r : List Tk) (ns : List Nd) : name ([wd s] ++ r) ns = .ok (s, r, ns) := by
  unfold name
  rw [show [wd s] ++ r = wd s :: r from rfl, bind_of (take_of (k := 1) (t := wd s) rfl)]
  rfl
theorem names_back {rest : List Tk} (hr : sees kw_comma rest = none) (ns : List Nd) (l : List Bytes) (hne : l ≠ []) (hl : l.length ≤ 1025) : names (namesT l ++ rest) ns = .ok (l, rest, ns) :=
  many_back (f := name) (T := fun s => [wd s]) name_back hr ns l hne hl
theorem agg_back {a : Nat × Bytes} (h : AggOk a) (r : List Tk) (ns : List Nd) : agg (aggT a ++ r) ns = .ok (a, r, ns) := by
  rcases h with rfl | ⟨h1, h2⟩
  · simp [aggT, agg, aggW, kw_aggs, choice, sees_wd]
  · obtain ⟨k, s⟩ := a
    dsimp only at h1 h2
    have : k = 2 ∨ k = 3 ∨ k = 4 ∨ k = 5 ∨ k = 6 := by omega
    rcases this with rfl | rfl | rfl | rfl | rfl
    all_goals
      simp only [aggT, agg, aggW, kw_aggs, choice]
      simp [sees_wd]
      rw [bind_of (take_of (k := 1) (t := wd s) rfl)]
      rfl
theorem many_go' {rest : List Tk} (hr : sees kw_comma rest = none) (ns : List Nd) : ∀ (xs acc : List (Nat × Bytes)) (k : Nat), (∀ a ∈ xs, AggOk a) → xs.length ≤ k → manyGo agg k acc ((xs.flatMap fun x => sg kw_comma :: aggT x) ++ rest) ns = .ok (acc ++ xs, rest, ns)
  | [], acc, k, _, _ => by
    cases k with
    | zero => simp [manyGo, M.pure]
    | succ k =>
      show (match sees kw_comma rest with | none => Except.ok (acc, rest, ns) | some ts1 => _) = _
      rw [hr]
      simp
  | x :: xs, acc, 0, _, h => by simp at h
  | x :: xs, acc, k + 1, ha, h => by
    have e : ((x :: xs).flatMap fun x => sg kw_comma :: aggT x) ++ rest = sg kw_comma :: (aggT x ++ ((xs.flatMap fun x => sg kw_comma :: aggT x) ++ rest)) := by simp
    rw [e]
    rw [many_some (by rw [sees_sg, if_pos rfl]), bind_of (agg_back (ha x (by simp)) _ ns), many_go' hr ns xs (acc ++ [x]) k (fun a h => ha a (by simp [h])) (by simpa using h)]
    simp
theorem aggs_back {rest : List Tk} (hr : sees kw_comma rest = none) (ns : List Nd) (l : List (Nat × Bytes)) (ha : ∀ a ∈ l, AggOk a) (hne : l ≠ []) (hl : l.length ≤ 1025) : aggs (aggsT l ++ rest) ns = .ok (l, rest, ns) := by
  cases l with
  | nil => exact absurd rfl hne
  | cons x xs =>
    have e : aggsT (x :: xs) ++ rest = aggT x ++ ((xs.flatMap fun x => sg kw_comma :: aggT x) ++ rest) := by
      simp [aggsT, sep, List.flatMap_map]
    rw [e]
    unfold aggs many
    rw [bind_of (agg_back (ha x (by simp)) _ ns), many_go' hr ns xs [x] fuel (fun a h => ha a (by simp [h])) (by unfold fuel; simp at hl; omega)]
    rfl
/-! Steps. -/
def Qr.steps : Qr → Nat
  | .fetch _ _ _ => 0
  | .where_ q _ => q.steps + 1
  | .keep q _ => q.steps + 1
  | .align q _ => q.steps + 1
  | .group q _ _ => q.steps + 1
  | .top q _ _ => q.steps + 1
  | .join q _ => q.steps + 1
  | .union q _ => q.steps + 1
theorem Qr.steps_le (q : Qr) : q.steps ≤ q.len := by
  induction q with
  | fetch => exact Nat.zero_le _
  | where_ q c ih => simp only [Qr.steps, Qr.len]; omega
  | keep q l ih => simp only [Qr.steps, Qr.len]; omega
  | align q n ih => simp only [Qr.steps, Qr.len]; omega
  | group q l g ih => simp only [Qr.steps, Qr.len]; omega
  | top q n s ih => simp only [Qr.steps, Qr.len]; omega
  | join q r ih _ => simp only [Qr.steps, Qr.len]; omega
  | union q r ih _ => simp only [Qr.steps, Qr.len]; omega
theorem steps_stop {step : Nat → M Nat} {ts : List Tk} (h : sees kw_bar ts = none) (k a : Nat) (ns : List Nd) : stepsGo step k a ts ns = .ok (a, ts, ns) := by
  cases k with
  | zero => rfl
  | succ k =>
    show (match sees kw_bar ts with | none => Except.ok (a, ts, ns) | some _ => _) = _
    rw [h]
theorem steps_next {step : Nat → M Nat} {ts1 ts2 : List Tk} {k a b : Nat} {ns ns1 : List Nd} (h : step a ts1 ns = .ok (b, ts2, ns1)) : stepsGo step (k + 1) a (sg kw_bar :: ts1) ns = stepsGo step k b ts2 ns1 := by
  show (match sees kw_bar (sg kw_bar :: ts1) with | none => Except.ok (a, sg kw_bar :: ts1, ns) | some ts1 => M.bind (step a) (stepsGo step k) ts1 ns) = _
  rw [sees_sg, if_pos rfl]
  dsimp only
  rw [bind_of h]
theorem choice_step {k : Nat} (h1 : 2 ≤ k) (h2 : k ≤ 8) (ts : List Tk) : choice kw_steps 1 (wd (stepW k) :: ts) = (k - 1, ts) := by
  have : k = 2 ∨ k = 3 ∨ k = 4 ∨ k = 5 ∨ k = 6 ∨ k = 7 ∨ k = 8 := by omega
  rcases this with rfl | rfl | rfl | rfl | rfl | rfl | rfl <;> simp [stepW, kw_steps, choice, sees_wd]
def QBack (q : Qr) : Prop := ∀ d, q.deep ≤ d → ∀ rest ns, Stop rest → queryOf (stepOf (pInner d) (pCond d)) (q.tok ++ rest) ns = stepsGo (stepOf (pInner d) (pCond d)) (fuel - q.steps) (ns.length + q.len - 1) rest (ns ++ q.flat ns.length)
/-- One step further. -/
theorem q_step {q : Qr} (hq : QBack q) (hl : q.len ≤ 1000) {d : Nat} (hd : q.deep ≤ d) {X : List Tk} {n : Nd} {Y : Nat → List Nd} {len : Nat} {rest : List Tk} (ns : List Nd)
    (hs : stepOf (pInner d) (pCond d) (ns.length + q.len - 1) (X ++ rest) (ns ++ q.flat ns.length) = .ok (ns.length + len - 1, rest, ns ++ Y ns.length)) :
    queryOf (stepOf (pInner d) (pCond d)) (q.tok ++ ([sg kw_bar] ++ X) ++ rest) ns = stepsGo (stepOf (pInner d) (pCond d)) (fuel - (q.steps + 1)) (ns.length + len - 1) rest (ns ++ Y ns.length) := by
  have h1 := q.steps_le
  rw [List.append_assoc]
  show queryOf _ (q.tok ++ (sg kw_bar :: (X ++ rest))) ns = _
  rw [hq d hd _ ns (.inr (.inl ⟨X ++ rest, rfl⟩))]
  obtain ⟨m, hm⟩ : ∃ m, fuel - q.steps = m + 1 := ⟨fuel - q.steps - 1, by unfold fuel; omega⟩
  rw [hm]
  rw [steps_next hs, show fuel - (q.steps + 1) = m by omega]
theorem lay_at (n : Nd) (rest : List Tk) (ns : List Nd) : lay n rest ns = .ok (ns.length, rest, ns ++ [n]) := rfl
theorem sep_len (l : List (List Tk)) (h : ∀ x ∈ l, 1 ≤ x.length) : l.length ≤ (sep l).length := by
  cases l with
  | nil => exact Nat.le_refl _
  | cons x r =>
    have h1 : r.length ≤ (r.flatMap fun y => sg kw_comma :: y).length := by
      clear h
      induction r with
      | nil => exact Nat.le_refl _
      | cons y r ih => simp only [List.flatMap_cons, List.length_append, List.length_cons]; omega
    have h2 := h x (by simp)
    simp only [sep, List.length_append, List.length_cons]
    omega
theorem names_len (l : List Bytes) : l.length ≤ (namesT l).length := by
  have := sep_len (l.map fun s => [wd s]) (by simp)
  simpa [namesT] using this
theorem aggs_len (l : List (Nat × Bytes)) : l.length ≤ (aggsT l).length := by
  have := sep_len (l.map aggT) (by
    intro x hx
    obtain ⟨a, _, rfl⟩ := List.mem_map.1 hx
    unfold aggT
    split <;> simp)
  simpa [aggsT] using this
end Go.Proofs.YtnaehhpikhlppaaGreatDoor.ParS
