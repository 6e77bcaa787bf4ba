/- The walks of the closures of plan's Split. What holds of the plain lexer's tokens and their places. A text that reads well, and a step behind it: what is read then. Plain lists, no program. The six steps of ParseCuts, read behind a text. Plain lists, no program. The plain law of ParseCuts: a text and a step behind it, if both read well. Brackets about a whole condition change nothing: the plain law. Plain lists, no program. The walk of the law ParseBrackets. The walks of the closures of plan's Split that make nodes. DERIVED: THE SHELF's CONTRACTS AT THIS DUMP, IN PLAIN WORDS (tools/lay-plain.mjs out of 'TryShelf.lean', which tools/lay-shelf.mjs wrote): THE SAME DECLARATIONS UNDER THE SAME NAMES: 'import', 'namespace', 'open', 'def', 'theorem' AND NOTHING ELSE: no command of the shelf's: FOR A HAND-IN. Each laying: the table of numbers ('.._ren') and one theorem, a field a fact of the dump's own or the kernel's comparison; each contract: ONE APPLICATION. A row of nodes of a call's own, that grows by renamed nodes. -/
import Derived.Test.YtjpogmomgmjmbaaN17
import Derived.Test.YtjpogmomgmjmbaaN1
import Derived.Test.YtjpogmomgmjmbaaN12
import Derived.Test.YtjpogmomgmjmbaaN3
import Derived.Test.YtjpogmomgmjmbaaN16
import Derived.Deep.Cut
import Derived.Shelf.Bits.Mul64
import Derived.Shelf.Slices.Turned
import Derived.Ground.Names2Prog
import Derived.Shelf.Slices.Clone
import Derived.Test.YtjpogmomgmjmbaaProg
/-! The walks of the closures of plan's Split. -/
namespace Go.Proofs.Ytjpogmomgmjmbaa
open Go.RowKit LexS ParS BigFrame
set_option maxHeartbeats 4000000
set_option linter.unusedVariables false
set_option linter.unusedSimpArgs false
attribute [local go_sem] World.cell?_alloc_some cell_drewN_new free_drewN_new cell_drew_new free_drew_new

section
variable {W W' : World} {sp g cap bb pb a sb kb lb lg lc : Nat} {ns : List Nd} {by_ part lasts : List Int} {x : Int}
set_option maxRecDepth 100000 in
theorem in_part (h : SM W sp g cap ns bb pb by_ part) (hs : W.cell? ⟨sb, 0, none⟩ = some (RP sp)) {k : Nat} (hk : W.cell? ⟨kb, 0, none⟩ = some (.int .i64 (k : Int))) (hx : part[a]? = some x) :
    Calls Try.prog 19 #[.int .i64 (a : Int), .pointer (some ⟨sb, 0, none⟩), .pointer (some ⟨kb, 0, none⟩)] W fun e W' => e = .returned (.bool (decide (x = (k : Int)))) ∧ Drawn W W' := by
  have c2 : W.cell? ⟨sp, 2, none⟩ = some (.slice (some ⟨pb, 0, none⟩) ns.length ns.length) := h.box.cell 2
  have d0 := intsZ_get h.pb hx
  have ha := some_lt hx
  rw [h.pl] at ha
  have hs0 := h.small
  have a0 : (0 : Int) ≤ (a : Int) := by omega
  have a1 : (a : Int) < (ns.length : Int) := by omega
  clear h hx
  by_cases hxk : x = (k : Int)
  · have q1 : (x == (k : Int)) = true := by rw [beq_iff_eq]; exact hxk
    have HE := Lib.hid (show decide (x = (k : Int)) = true from decide_eq_true hxk)
    subst hxk
    go_enter Try.func19, Try.ntmps19
    go_wp2_with fail
    go_big_quiet (fail)
    go_wp2_with fail
    go_ret
    exact ⟨by rw [HE.out]; rfl, Drawn.base _ _⟩
  · have q1 : (x == (k : Int)) = false := by rw [beq_eq_false_iff_ne]; exact hxk
    have HE := Lib.hid (show decide (x = (k : Int)) = false from decide_eq_false hxk)
    go_enter Try.func19, Try.ntmps19
    go_wp2_with fail
    go_big_quiet (fail)
    go_wp2_with fail
    go_ret
    exact ⟨by rw [HE.out]; rfl, Drawn.base _ _⟩
set_option maxRecDepth 100000 in
theorem in_rest (h : SM W sp g cap ns bb pb by_ part) (hs : W.cell? ⟨sb, 0, none⟩ = some (RP sp)) {ll : Nat} (hl : W.cell? ⟨lb, 0, none⟩ = some (.slice (some ⟨lg, 0, none⟩) ll lc)) (hx : part[a]? = some x)
    (hin : 0 ≤ x → ∃ y : Nat, x < (ll : Int) ∧ ll ≤ 128 ∧ W.cell? ⟨lg, x.toNat, none⟩ = some (.int .i64 (y : Int)) ∧ lasts[x.toNat]? = some (y : Int)) :
    Calls Try.prog 20 #[.int .i64 (a : Int), .pointer (some ⟨sb, 0, none⟩), .pointer (some ⟨lb, 0, none⟩)] W fun e W' => e = .returned (.bool (decide (x < 0) || decide (lasts[x.toNat]? = some (a : Int)))) ∧ Drawn W W' := by
  have c2 : W.cell? ⟨sp, 2, none⟩ = some (.slice (some ⟨pb, 0, none⟩) ns.length ns.length) := h.box.cell 2
  have d0 := intsZ_get h.pb hx
  have ha := some_lt hx
  rw [h.pl] at ha
  have hs0 := h.small
  have a0 : (0 : Int) ≤ (a : Int) := by omega
  have a1 : (a : Int) < (ns.length : Int) := by omega
  clear h hx
  by_cases hx0 : x < 0
  · have q1 : decide (x < 0) = true := decide_eq_true hx0
    have HE := Lib.hid (show (decide (x < 0) || decide (lasts[x.toNat]? = some (a : Int))) = true by rw [q1]; rfl)
    clear hin
    go_enter Try.func20, Try.ntmps20
    go_wp2_with fail
    go_big_quiet (fail)
    go_wp2_with fail
    go_ret
    exact ⟨by rw [HE.out]; rfl, Drawn.base _ _⟩
  · obtain ⟨y, hy, hll, e0, e1⟩ := hin (by omega)
    obtain ⟨z, rfl⟩ : ∃ z : Nat, x = (z : Int) := ⟨x.toNat, by omega⟩
    rw [Int.toNat_natCast] at e0 e1
    rw [Int.toNat_natCast]
    have q1 : decide ((z : Int) < 0) = false := decide_eq_false hx0
    have z0 : (0 : Int) ≤ (z : Int) := by omega
    clear hin
    by_cases hya : y = a
    · subst hya
      have q2 : ((y : Int) == (y : Int)) = true := by simp
      have HE := Lib.hid (show (decide ((z : Int) < 0) || decide (lasts[z]? = some (y : Int))) = true by rw [e1]; simp)
      clear e1
      go_enter Try.func20, Try.ntmps20
      go_wp2_with fail
      go_big_quiet (fail)
      go_wp2_with fail
      go_ret
      exact ⟨by rw [HE.out]; rfl, Drawn.base _ _⟩
    · have q2 : ((y : Int) == (a : Int)) = false := by rw [beq_eq_false_iff_ne]; omega
      have q3 : ¬ (y : Int) = (a : Int) := by omega
      have HE := Lib.hid (show (decide ((z : Int) < 0) || decide (lasts[z]? = some (a : Int))) = false by rw [e1, q1]; simp; omega)
      clear e1
      go_enter Try.func20, Try.ntmps20
      go_wp2_with fail
      go_big_quiet (fail)
      go_wp2_with fail
      go_ret
      exact ⟨by rw [HE.out]; rfl, Drawn.base _ _⟩
end
end Go.Proofs.Ytjpogmomgmjmbaa

/-! What holds of the plain lexer's tokens and their places. -/
namespace Go.Proofs.Ytjpogmomgmjmbaa.LexS

theorem oneS_word (l : Bytes) (h : (oneS l).2 ≠ 0) : (((oneS l).1.kind = 1 ∨ (oneS l).1.kind = 4) ∧ (oneS l).1.s = l.take (oneS l).2) ∨ (oneS l).1.kind = 2 ∨ (oneS l).1.kind = 3 := by
  unfold oneS at h ⊢
  split at h
  · exact absurd rfl h
  · rename_i c r
    split
    · split
      · exact .inl ⟨.inl rfl, rfl⟩
      · rename_i h1 h2
        rw [if_pos h1, if_neg h2] at h
        exact absurd rfl h
    · rename_i h1
      rw [if_neg h1] at h
      split
      · rename_i h2
        rw [if_pos h2] at h
        split
        · exact .inr (.inr rfl)
        · rename_i h3
          rw [h3] at h
          exact absurd rfl h
      · rename_i h2
        rw [if_neg h2] at h
        split
        · rename_i h3
          rw [if_pos h3] at h
          split
          · exact .inr (.inl rfl)
          · rename_i h4
            rw [h4] at h
            exact absurd rfl h
        · rename_i h3
          rw [if_neg h3] at h
          split
          · rename_i h4
            rw [if_pos h4] at h
            exact absurd rfl h
          · exact .inl ⟨.inr rfl, rfl⟩
def Good (L : Bytes) (x : List Tok) (a : Nat) : Prop :=
  ∀ (i : Nat) (t : Tok), x[i]? = some t → t.at_ < a ∧ (∀ (j : Nat) (u : Tok), j < i → x[j]? = some u → u.at_ < t.at_) ∧ 1 ≤ t.kind ∧ t.kind ≤ 4 ∧
    (t.kind = 1 ∨ t.kind = 4 → t.at_ + t.s.length ≤ L.length ∧ (L.drop t.at_).take t.s.length = t.s)
theorem Good.mono {L : Bytes} {x : List Tok} {a b : Nat} (h : Good L x a) (hab : a ≤ b) : Good L x b :=
  fun i t hi => let ⟨h1, h2⟩ := h i t hi; ⟨Nat.lt_of_lt_of_le h1 hab, h2⟩
theorem Good.add {L : Bytes} {x : List Tok} {a : Nat} (h : Good L x a) (ha : a ≤ L.length) (hn : (oneS (L.drop a)).2 ≠ 0) :
    Good L (x ++ [{ (oneS (L.drop a)).1 with at_ := a }]) (a + (oneS (L.drop a)).2) := by
  intro i t hi
  rw [List.getElem?_append] at hi
  split at hi
  · rename_i hlt
    obtain ⟨h1, h2, h3⟩ := h i t hi
    refine ⟨by omega, fun j u hj hu => ?_, h3⟩
    rw [List.getElem?_append_left (by omega)] at hu
    exact h2 j u hj hu
  · rename_i hlt
    have hi0 : i - x.length = 0 := by
      rcases Nat.eq_zero_or_pos (i - x.length) with h0 | h0
      · exact h0
      · rw [List.getElem?_eq_none (by simp; omega)] at hi; cases hi
    rw [hi0] at hi
    simp only [List.getElem?_cons_zero, Option.some.injEq] at hi
    subst hi
    have hw := oneS_word _ hn
    have hle := oneS_le (L.drop a)
    rw [List.length_drop] at hle
    refine ⟨by dsimp only; omega, fun j u hj hu => ?_, ?_, ?_, fun hk => ?_⟩
    · rw [List.getElem?_append_left (by omega)] at hu
      exact (h j u hu).1
    · dsimp only
      rcases hw with ⟨h1 | h1, _⟩ | h1 | h1 <;> omega
    · dsimp only
      rcases hw with ⟨h1 | h1, _⟩ | h1 | h1 <;> omega
    · dsimp only at hk ⊢
      rcases hw with ⟨_, hs⟩ | h1 | h1
      · have hlen : (oneS (L.drop a)).1.s.length = (oneS (L.drop a)).2 := by rw [hs, List.length_take, List.length_drop]; omega
        refine ⟨by omega, ?_⟩
        rw [hlen, ← hs]
      · omega
      · omega
theorem lexGo_good (L : Bytes) : ∀ (k a : Nat) (rest : Bytes) (acc : List Tok), rest = L.drop a → a ≤ L.length → Good L acc a → rest.length < k →
    ((lexGo k a rest acc).2.2 = 0 ∧ (lexGo k a rest acc).2.1 = 0 ∧ Good L (lexGo k a rest acc).1 L.length) ∨
    ((lexGo k a rest acc).2.2 = 110 ∧ (lexGo k a rest acc).1 = [] ∧ (lexGo k a rest acc).2.1 ≤ L.length)
  | 0, _, _, _, _, _, _, h => by omega
  | k + 1, a, rest, acc, hr, ha, hg, hk => by
    unfold lexGo
    match rest, hr, hk with
    | [], hr, hk => exact .inl ⟨rfl, rfl, hg.mono ha⟩
    | c :: r, hr, hk =>
      have hlt : a < L.length := by
        have := congrArg List.length hr
        rw [List.length_drop, List.length_cons] at this
        omega
      have hr2 : r = L.drop (a + 1) := by
        rw [← List.drop_drop, ← hr]; rfl
      dsimp only
      simp only [List.length_cons] at hk
      split
      · exact lexGo_good L k (a + 1) r acc hr2 hlt (hg.mono (by omega)) (by omega)
      · split
        · exact .inr ⟨rfl, rfl, ha⟩
        · rename_i hn
          have hle := oneS_le (c :: r)
          rw [hr] at hn hle ⊢
          rw [List.length_drop] at hle
          refine lexGo_good L k _ _ _ (by rw [List.drop_drop]) (by omega) (hg.add ha hn) ?_
          rw [List.length_drop, List.length_drop]
          have := congrArg List.length hr
          rw [List.length_drop, List.length_cons] at this
          omega
theorem lexS_good (L : Bytes) : ((lexS L).2.2 = 0 ∧ (lexS L).2.1 = 0 ∧ Good L (lexS L).1 L.length) ∨ ((lexS L).2.2 ≠ 0 ∧ (lexS L).1 = [] ∧ (lexS L).2.1 ≤ L.length) := by
  unfold lexS
  split
  · exact .inr ⟨by simp, rfl, Nat.zero_le _⟩
  · rcases lexGo_good L (L.length + 1) 0 L [] (by simp) (Nat.zero_le _) (fun i t h => by simp at h) (by omega) with h | ⟨h1, h2, h3⟩
    · exact .inl h
    · exact .inr ⟨by omega, h2, h3⟩
theorem lexS_small (L : Bytes) (h : (lexS L).2.2 = 0) : L.length ≤ 2048 := by
  unfold lexS at h
  split at h
  · simp at h
  · omega
end Go.Proofs.Ytjpogmomgmjmbaa.LexS

/-! A text that reads well, and a step behind it: what is read then. Plain lists, no program. The six steps of ParseCuts, read behind a text. Plain lists, no program. The plain law of ParseCuts: a text and a step behind it, if both read well. Brackets about a whole condition change nothing: the plain law. Plain lists, no program. -/
/-! A text that reads well, and a step behind it: what is read then. Plain lists, no program. -/
namespace Go.Proofs.Ytjpogmomgmjmbaa.ParS
open LexS
set_option linter.unusedVariables false

section
variable {step : Nat → M Nat}
end
end Go.Proofs.Ytjpogmomgmjmbaa.ParS

/-! The six steps of ParseCuts, read behind a text. Plain lists, no program. -/
namespace Go.Proofs.Ytjpogmomgmjmbaa.ParS
open LexS
set_option linter.unusedVariables false
set_option maxRecDepth 100000

def cut1 : List Tk := [⟨1, [97, 108, 105, 103, 110], 0⟩, ⟨2, [], 5⟩]
def cut2 : List Tk := [⟨1, [116, 111, 112], 0⟩, ⟨2, [], 3⟩, ⟨1, [98, 121], 0⟩, ⟨1, [98], 0⟩]
def cut3 : List Tk := [⟨1, [103, 114, 111, 117, 112], 0⟩, ⟨1, [99], 0⟩, ⟨4, [58], 0⟩, ⟨1, [99, 111, 117, 110, 116], 0⟩]
theorem st1 (b : Nat) (ns : List Nd) : stepOf (pInner 16) (pCond 16) b cut1 ns = .ok (ns.length, [], ns ++ [{ node 4 [b] with n := 5 }]) := by kernel_rfl
theorem st2 (b : Nat) (ns : List Nd) : stepOf (pInner 16) (pCond 16) b cut2 ns = .ok (ns.length, [], ns ++ [{ node 6 [b] with n := 3, s := [98] }]) := by kernel_rfl
theorem st3 (b : Nat) (ns : List Nd) : stepOf (pInner 16) (pCond 16) b cut3 ns = .ok (ns.length, [], ns ++ [{ node 5 [b] with names := [[99]], aggs := [(1, [])] }]) := by kernel_rfl
end Go.Proofs.Ytjpogmomgmjmbaa.ParS

/-! The plain law of ParseCuts: a text and a step behind it, if both read well. -/
namespace Go.Proofs.Ytjpogmomgmjmbaa.ParS
open LexS
set_option linter.unusedVariables false

theorem parse_ok {l : List Tok} {ns : List Nd} {n : Nat} (h : parseS l = (ns, n, 0)) : ∃ b, pQuery 16 (l.map tk) [] = .ok (b, [], ns) ∧ l.length ≤ 1024 ∧ b = ns.length - 1 ∧ ns ≠ [] ∧ ns.length ≤ 128 := by
  unfold parseS parseAll at h
  split at h
  · cases h
  · rename_i hl
    rw [List.length_map] at hl
    split at h
    · rename_i k e he
      cases e <;> cases h
    · rename_i a ts ns1 he
      split at h
      · cases h
      · rename_i ht
        split at h
        · cases h
        · cases h
          have ht' : ts = [] := by
            by_cases x : ts = []
            · exact x
            · exact absurd x ht
          subst ht'
          obtain ⟨ms, rfl, _, hne, hb⟩ := lays_query 16 _ _ _ _ _ he
          exact ⟨a, he, by omega, by simpa using hb, by simpa using hne, by omega⟩
theorem query_ok {s : Bytes} (h : (queryS s).2.2 = 0) : ∃ xs n, lexS s = (xs, 0, 0) ∧ parseS xs = ((queryS s).1, n, 0) ∧ s.length ≤ 2048 := by
  have hg := lexS_good s
  have hsm := lexS_small s
  unfold queryS at h ⊢
  rcases hx : lexS s with ⟨l, a, e⟩
  rw [hx] at h hg hsm
  dsimp only at h hg hsm ⊢
  by_cases he : e ≠ 0
  · rw [if_pos he] at h
    exact absurd h he
  · have he0 : e = 0 := by omega
    subst he0
    rw [if_neg he] at h ⊢
    have ha : a = 0 := by
      rcases hg with ⟨_, h2, _⟩ | ⟨h2, _⟩
      · exact h2
      · exact absurd rfl h2
    subst ha
    rcases hp : parseS l with ⟨ns, n, f⟩
    rw [hp] at h
    dsimp only at h ⊢
    by_cases hf : f = 0
    · subst hf
      rw [if_pos rfl]
      exact ⟨l, n, rfl, hp, hsm rfl⟩
    · rw [if_neg hf] at h
      split at h
      · exact absurd h hf
      · exact absurd h hf
end Go.Proofs.Ytjpogmomgmjmbaa.ParS

/-! Brackets about a whole condition change nothing: the plain law. Plain lists, no program. -/
namespace Go.Proofs.Ytjpogmomgmjmbaa.ParS
open LexS
set_option linter.unusedVariables false
set_option maxRecDepth 100000

/-- fetch x | where -/
def hdB : Bytes := [102, 101, 116, 99, 104, 32, 120, 32, 124, 32, 119, 104, 101, 114, 101]
end Go.Proofs.Ytjpogmomgmjmbaa.ParS

/-! The walk of the law ParseBrackets. -/
namespace Go.Proofs.Ytjpogmomgmjmbaa
open Go.RowKit LexS ParS BigFrame
set_option maxHeartbeats 4000000
set_option linter.unusedVariables false
set_option linter.unusedSimpArgs false
attribute [local go_sem] World.cell?_alloc_some cell_drewN_new free_drewN_new cell_drew_new free_drew_new

theorem NR.stay {W W' : World} {v : Value} {ns : List Nd} (hb : Below W.heap.size W W') (h : NR W v ns) : NR W' v ns := by
  obtain ⟨p, cap, h1, h2, h3, h4⟩ := h
  refine ⟨p, cap, h1, h2, h3, fun hne => ?_⟩
  obtain ⟨g, hg, hc⟩ := h4 hne
  exact ⟨g, hg, fun i nd hi => by
    obtain ⟨m, b, e1, e2, e3⟩ := hc i nd hi
    exact ⟨m, b, e1, e2.kept hb, range_kept hb e3⟩⟩
theorem brk_text1 (s : ByteArray) : ((⟨#[102, 101, 116, 99, 104, 32, 120, 32, 124, 32, 119, 104, 101, 114, 101, 32]⟩ : ByteArray) ++ s).data.toList = hdB ++ 32 :: s.data.toList := by simp [hdB]
end Go.Proofs.Ytjpogmomgmjmbaa

/-! The walks of the closures of plan's Split that make nodes. -/
namespace Go.Proofs.Ytjpogmomgmjmbaa
open Go.RowKit LexS ParS BigFrame
set_option maxHeartbeats 4000000
set_option linter.unusedVariables false
set_option linter.unusedSimpArgs false
attribute [local go_sem] World.cell?_alloc_some cell_drewN_new free_drewN_new cell_drew_new free_drew_new

section
variable {W W' : World} {sp g cap bb pb a sb kb lb lg lc : Nat} {ns : List Nd} {by_ part lasts : List Int} {x : Int}
theorem SM.kept (h : SM W sp g cap ns bb pb by_ part) (hb : Below W.heap.size W W') : SM W' sp g cap ns bb pb by_ part :=
  ⟨h.box.kept hb, h.nr.stay hb, h.cap, h.bb.kept hb, h.pb.kept hb, h.bl, h.pl, h.small⟩
theorem nr_range {n : Nat} (h : NR W (.slice (some ⟨g, 0, none⟩) n cap) ns) {i : Nat} {nd : Nd} (hi : ns[i]? = some nd) : ∃ (m : NodeM) (b : Nat), m.node = nd ∧ MOk W b m ∧ W.rangeAt g (i * 19) m.cells := by
  obtain ⟨p, c, h1, _, _, h4⟩ := h
  obtain ⟨g', hg, hc⟩ := h4 (by rintro rfl; simp at hi)
  injection h1 with e1 e2 e3
  rw [hg] at e1
  injection e1 with e1
  injection e1 with e1
  subst e1
  exact hc i nd hi
theorem MOk.ones {b : Nat} {m : NodeM} (h : MOk W b m) : m.cells.toArray.all (·.oneCell') = true := by
  obtain ⟨nd, lv, nv, av⟩ := m
  obtain ⟨kd, s, n, fr, to_, v, l, nm, ag⟩ := nd
  obtain ⟨p1, c1, e1⟩ := row_slice h.l
  obtain ⟨p2, c2, e2⟩ := row_slice h.names
  obtain ⟨p3, c3, e3⟩ := row_slice h.aggs
  dsimp only at e1 e2 e3
  exact one_nd kd s n fr to_ v (by rw [e1]; rfl) (by rw [e2]; rfl) (by rw [e3]; rfl) l nm ag
/-- What is answered is a node; what was there stays. -/
def NodeR (W : World) (nd : Nd) (e : Ending) (W' : World) : Prop := ∃ (m : NodeM) (b : Nat), e = .returned (.agg m.cells.toArray) ∧ m.node = nd ∧ MOk W' b m ∧ Below W.heap.size W W'
set_option maxRecDepth 100000 in
theorem node_of (h : SM W sp g cap ns bb pb by_ part) (hs : W.cell? ⟨sb, 0, none⟩ = some (RP sp)) {nd : Nd} (hn : ns[a]? = some nd) :
    Calls Try.prog 17 #[.int .i64 (a : Int), .pointer (some ⟨sb, 0, none⟩)] W (NodeR W nd) := by
  have c0 : W.cell? ⟨sp, 0, none⟩ = some (.slice (some ⟨g, 0, none⟩) ns.length cap) := h.box.cell 0
  obtain ⟨m, b, hm, hk, hr⟩ := nr_range h.nr hn
  have ha := some_lt hn
  have hs0 := h.small
  have a0 : (0 : Int) ≤ (a : Int) := by omega
  have a1 : (a : Int) < (ns.length : Int) := by omega
  have hth := nd_there W
  have hone := hk.ones
  have HK := Lib.hid (And.intro hm hk)
  have HR := Lib.hid (range_kept ((Below.refl W.heap.size W).alloc (Nat.le_refl _) (.cells zeroNd 43)) hr)
  clear h hn hm hk hr
  go_enter Try.func17, Try.ntmps17
  go_wp2_with (first
    | (refine wpList_load_mid (by rfl) 43 (.tmp 9) (by rfl) g (a * 19) (by rfl) m.cells _ HR.out undNode (by rfl) sizeNode ?_)
    | (refine wpList_store_mid (by rfl) 43 (.tmp 3) (.tmp 10) (by rfl) W.heap.size 0 m.cells.toArray (by rfl) (by rfl) hth sizeNode hone ?_
       generalize hw4 : World.setCells _ _ _ _ = w4
       have F4 := Lib.hid (nd_stored (m := m) hw4)
       clear hw4 hth hone))
  exact bodyPost_ret (results_cell_row rfl _ _ W.heap.size 43 m.cells.toArray (0, 0) _ (by rfl) F4.out.2 undNode (by rfl) sizeNode) rfl ⟨m, b, rfl, HK.out.1, HK.out.2.kept F4.out.1, F4.out.1⟩
set_option maxRecDepth 100000 in
theorem rest_of (h : SM W sp g cap ns bb pb by_ part) (hs : W.cell? ⟨sb, 0, none⟩ = some (RP sp)) {nd : Nd} (hn : ns[a]? = some nd) (hx : part[a]? = some x) :
    Calls Try.prog 21 #[.int .i64 (a : Int), .pointer (some ⟨sb, 0, none⟩)] W (NodeR W (if x < 0 then nd else { node 9 [] with n := x })) := by
  have c0 : W.cell? ⟨sp, 0, none⟩ = some (.slice (some ⟨g, 0, none⟩) ns.length cap) := h.box.cell 0
  have c2 : W.cell? ⟨sp, 2, none⟩ = some (.slice (some ⟨pb, 0, none⟩) ns.length ns.length) := h.box.cell 2
  have d0 := intsZ_get h.pb hx
  obtain ⟨m, b, hm, hk, hr⟩ := nr_range h.nr hn
  have ha := some_lt hn
  have hs0 := h.small
  have a0 : (0 : Int) ≤ (a : Int) := by omega
  have a1 : (a : Int) < (ns.length : Int) := by omega
  have hth := nd_there W
  have hone := hk.ones
  have HK := Lib.hid (And.intro hm hk)
  have HR := Lib.hid (range_kept ((Below.refl W.heap.size W).alloc (Nat.le_refl _) (.cells zeroNd 43)) hr)
  clear h hn hm hk hr hx
  by_cases hx0 : x < 0
  · have q1 : decide (x < 0) = true := decide_eq_true hx0
    rw [if_pos hx0]
    go_enter Try.func21, Try.ntmps21
    go_wp2_with (first
      | (refine wpList_load_mid (by rfl) 43 (.tmp 17) (by rfl) g (a * 19) (by rfl) m.cells _ HR.out undNode (by rfl) sizeNode ?_)
      | (refine wpList_store_mid (by rfl) 43 (.tmp 3) (.tmp 18) (by rfl) W.heap.size 0 m.cells.toArray (by rfl) (by rfl) hth sizeNode hone ?_
         generalize hw4 : World.setCells _ _ _ _ = w4
         have F4 := Lib.hid (nd_stored (m := m) hw4)
         clear hw4 hth hone))
    exact bodyPost_ret (results_cell_row rfl _ _ W.heap.size 43 m.cells.toArray (0, 0) _ (by rfl) F4.out.2 undNode (by rfl) sizeNode) rfl ⟨m, b, rfl, HK.out.1, HK.out.2.kept F4.out.1, F4.out.1⟩
  · have q1 : decide (x < 0) = false := decide_eq_false hx0
    have hone2 := leafM_one 9 [] x noVal
    rw [if_neg hx0]
    clear HK HR hone
    go_enter Try.func21, Try.ntmps21
    go_wp2_with (refine wpList_store_mid (by rfl) 43 (.tmp 3) (.tmp 26) (by rfl) W.heap.size 0 (leafM 9 [] x noVal).cells.toArray (by rfl) (by rfl) hth sizeNode hone2 ?_
                 generalize hw4 : World.setCells _ _ _ _ = w4
                 have F4 := Lib.hid (nd_stored (m := leafM 9 [] x noVal) hw4)
                 clear hw4 hth hone2)
    exact bodyPost_ret (results_cell_row rfl _ _ W.heap.size 43 (leafM 9 [] x noVal).cells.toArray (0, 0) _ (by rfl) F4.out.2 undNode (by rfl) sizeNode) rfl ⟨leafM 9 [] x noVal, 0, rfl, rfl, ⟨nil_row, nil_row, nil_row⟩, F4.out.1⟩
end
end Go.Proofs.Ytjpogmomgmjmbaa

/-! DERIVED: THE SHELF's CONTRACTS AT THIS DUMP, IN PLAIN WORDS (tools/lay-plain.mjs out of 'TryShelf.lean', which tools/lay-shelf.mjs wrote): THE SAME DECLARATIONS UNDER THE SAME NAMES: 'import', 'namespace', 'open', 'def', 'theorem' AND NOTHING ELSE: no command of the shelf's: FOR A HAND-IN. Each laying: the table of numbers ('.._ren') and one theorem, a field a fact of the dump's own or the kernel's comparison; each contract: ONE APPLICATION. -/
namespace Go.Proofs
open Go.Shelf
def Try.lays264_ren : Go.Shelf.Ren := ⟨fun | 264 => 54 | n => n, fun | 53 => 102 | 46 => 92 | n => n, fun | n => n⟩
theorem Try.lays264 : Go.Proofs.Lays.n264 Try.prog Try.lays264_ren := {
  mixed := by kernel_rfl
  f264 := Try.func54.trans (congrArg some (by kernel_rfl))
  t46 := Try.underlying92
  a46 := Try.isAgg92
  z46 := Try.sizeOf92
  v46 := Try.zeroValue92
  t53 := Try.underlying102
  a53 := Try.isAgg102
  z53 := Try.sizeOf102
  v53 := Try.zeroValue102 }
open Go.RowKit Go.Lib in
theorem Try.bits_Mul64 (x y : Nat) (hx : x < 18446744073709551616) (hy : y < 18446744073709551616) (w : World) :
    Calls Try.prog 54 #[.int .u64 x, .int .u64 y] w fun e w' => e = .returned (.tuple #[.int .u64 ((x * y / 18446744073709551616 : Nat) : Int), .int .u64 ((x * y % 18446744073709551616 : Nat) : Int)]) ∧ w' = w := Any.bits_Mul64 Try.lays264 x y hx hy w
def Try.lays212_ren : Go.Shelf.Ren := ⟨fun | 212 => 46 | 263 => 53 | 264 => 54 | n => n, fun | 46 => 92 | 51 => 99 | 146 => 100 | 53 => 102 | 148 => 103 | n => n, fun | n => n⟩
theorem Try.lays212 : Go.Proofs.Lays.n212 Try.prog Try.lays212_ren := {
  mixed := by kernel_rfl
  f212 := Try.func46.trans (congrArg some (by kernel_rfl))
  f263 := Try.func53.trans (congrArg some (by kernel_rfl))
  f264 := Try.func54.trans (congrArg some (by kernel_rfl))
  t46 := Try.underlying92
  a46 := Try.isAgg92
  z46 := Try.sizeOf92
  v46 := Try.zeroValue92
  t51 := Try.underlying99
  a51 := Try.isAgg99
  z51 := Try.sizeOf99
  v51 := Try.zeroValue99
  t53 := Try.underlying102
  a53 := Try.isAgg102
  z53 := Try.sizeOf102
  v53 := Try.zeroValue102
  t146 := Try.underlying100
  a146 := Try.isAgg100
  z146 := Try.sizeOf100
  v146 := Try.zeroValue100
  t148 := Try.underlying103
  a148 := Try.isAgg103
  z148 := Try.sizeOf103
  v148 := Try.zeroValue103 }
open Go.RowKit Go.Lib in
/-- math/bits.Mul: "Mul returns the full-width product of x and y": on a machine of 64 bits: Mul64's. (LAID: no walk: one application.) -/
theorem Try.bits_Mul (x y : Nat) (hx : x < 18446744073709551616) (hy : y < 18446744073709551616) (w : World) :
    Calls Try.prog 46 #[.int .u64 x, .int .u64 y] w fun e w' => e = .returned (.tuple #[.int .u64 ((x * y / 18446744073709551616 : Nat) : Int), .int .u64 ((x * y % 18446744073709551616 : Nat) : Int)]) ∧ w' = w := Any.bits_Mul Try.lays212 x y hx hy w
def Try.lays108_ren : Go.Shelf.Ren := ⟨fun | 108 => 47 | n => n, fun | 28 => 39 | 3 => 3 | 0 => 0 | 4 => 4 | n => n, fun | n => n⟩
theorem Try.lays108 : Go.Proofs.Lays.n108 Try.prog Try.lays108_ren := {
  mixed := by kernel_rfl
  f108 := Try.func47.trans (congrArg some (by kernel_rfl))
  t0 := Try.underlying0
  a0 := Try.isAgg0
  z0 := Try.sizeOf0
  v0 := Try.zeroValue0
  t3 := Try.underlying3
  a3 := Try.isAgg3
  z3 := Try.sizeOf3
  v3 := Try.zeroValue3
  t4 := Try.underlying4
  a4 := Try.isAgg4
  z4 := Try.sizeOf4
  v4 := Try.zeroValue4
  t28 := Try.underlying39
  a28 := Try.isAgg39
  z28 := Try.sizeOf39
  v28 := Try.zeroValue39 }
open Go.Lib in
/-- slices.Index at []int: "Index returns the index of the first occurrence of v in s, or -1 if not present.": IT RETURNS 'Lib.idxOf (the elements) v'; the world is as it was. 'zs': what the cells behind the slice's address hold (its spare capacity too, if you have it); 'zs.take n': its elements. (LAID: no walk: one application.) -/
theorem Try.slices_Index_int (b off n c : Nat) (zs : List Int) (x : Int) (w : World) (hz : n ≤ zs.length) (hbig : n ≤ 9223372036854775807) (hc : ∀ j, j < zs.length → w.cell? ⟨b, off + j, none⟩ = some (.int .i64 (zs.getD j 0))) :
    Calls Try.prog 47 #[.slice (some ⟨b, off, none⟩) n c, .int .i64 x] w fun e w' => e = .returned (.int .i64 (Lib.idxOf (zs.take n) x)) ∧ w' = w := Any.slices_Index_int Try.lays108 b off n c zs x w hz hbig hc
open Go.Lib in
/-- The same at a slice of length 0, a nil one too: no cell is known, none is asked for. (LAID: no walk: one application.) -/
theorem Try.slices_Index_int_empty (a : Option Addr) (c : Nat) (x : Int) (w : World) :
    Calls Try.prog 47 #[.slice a 0 c, .int .i64 x] w fun e w' => e = .returned (.int .i64 (Lib.idxOf [] x)) ∧ w' = w := Any.slices_Index_int_empty Try.lays108 a c x w
def Try.lays107_ren : Go.Shelf.Ren := ⟨fun | 107 => 31 | 108 => 47 | n => n, fun | 28 => 39 | 3 => 3 | 4 => 4 | 0 => 0 | n => n, fun | n => n⟩
theorem Try.lays107 : Go.Proofs.Lays.n107 Try.prog Try.lays107_ren := {
  mixed := by kernel_rfl
  f107 := Try.func31.trans (congrArg some (by kernel_rfl))
  f108 := Try.func47.trans (congrArg some (by kernel_rfl))
  t0 := Try.underlying0
  a0 := Try.isAgg0
  z0 := Try.sizeOf0
  v0 := Try.zeroValue0
  t3 := Try.underlying3
  a3 := Try.isAgg3
  z3 := Try.sizeOf3
  v3 := Try.zeroValue3
  t4 := Try.underlying4
  a4 := Try.isAgg4
  z4 := Try.sizeOf4
  v4 := Try.zeroValue4
  t28 := Try.underlying39
  a28 := Try.isAgg39
  z28 := Try.sizeOf39
  v28 := Try.zeroValue39 }
open Go.Lib in
/-- slices.Contains at []int: "Contains reports whether v is present in s.": IT RETURNS 'elements.contains v'; the world is as it was. ITS CALLEE slices.Index IS MET BY ITS OWN CONTRACT OFF THE SHELF (lay that first): no loop is walked here. (LAID: no walk: one application.) -/
theorem Try.slices_Contains_int (b off n c : Nat) (zs : List Int) (x : Int) (w : World) (hz : n ≤ zs.length) (hbig : n ≤ 9223372036854775807) (hc : ∀ j, j < zs.length → w.cell? ⟨b, off + j, none⟩ = some (.int .i64 (zs.getD j 0))) :
    Calls Try.prog 31 #[.slice (some ⟨b, off, none⟩) n c, .int .i64 x] w fun e w' => e = .returned (.bool ((zs.take n).contains x)) ∧ w' = w := Any.slices_Contains_int Try.lays107 b off n c zs x w hz hbig hc
open Go.Lib in
/-- The same at a slice of length 0, a nil one too. (LAID: no walk: one application.) -/
theorem Try.slices_Contains_int_empty (a : Option Addr) (c : Nat) (x : Int) (w : World) :
    Calls Try.prog 31 #[.slice a 0 c, .int .i64 x] w fun e w' => e = .returned (.bool false) ∧ w' = w := Any.slices_Contains_int_empty Try.lays107 a c x w
def Try.laysNm215_ren : Go.Shelf.Ren := ⟨fun | 15 => 32 | n => n, fun | 22 => 39 | 3 => 3 | 4 => 4 | n => n, fun | n => n⟩
theorem Try.laysNm215 : Go.Proofs.Lays2.n15 Try.prog Try.laysNm215_ren := {
  mixed := by kernel_rfl
  f15 := Try.func32.trans (congrArg some (by kernel_rfl))
  t3 := Try.underlying3
  a3 := Try.isAgg3
  z3 := Try.sizeOf3
  v3 := Try.zeroValue3
  t4 := Try.underlying4
  a4 := Try.isAgg4
  z4 := Try.sizeOf4
  v4 := Try.zeroValue4
  t22 := Try.underlying39
  a22 := Try.isAgg39
  z22 := Try.sizeOf39
  v22 := Try.zeroValue39
  i3 := by kernel_rfl }
open Go.RowKit Go.Lib in
/-- slices.Clone at []int: "Clone returns a copy of the slice. The elements are copied using assignment, so this is a shallow clone. The result may have additional unused capacity. The result preserves the nilness of s.": OF A SLICE THAT IS NOT nil IT RETURNS A SLICE THAT IS NOT nil, OF THE SAME ELEMENTS, IN MEMORY OF THE CALL's OWN: in the how-to's words (6f): 'w'.ownsRow B e 1 v' n cells': v' begins at the head of a row among the blocks from B on (B: the heap's size at the call), not frozen, whose first cells are the elements · 'Below B w w'': below B all is as it was. The capacity is whatever the run-time gives. 'zs': what the cells behind the slice's address hold; 'zs.take n': its elements. (LAID: no walk: one application.) -/
theorem Try.slices_Clone_int (b off n c : Nat) (zs : List Int) (w : World) (hz : n ≤ zs.length) (hbig : n * 8 ≤ 140737488355328) (hc : ∀ j, j < zs.length → w.cell? ⟨b, off + j, none⟩ = some (.int .i64 (zs.getD j 0))) :
    Calls Try.prog 32 #[.slice (some ⟨b, off, none⟩) n c] w fun e w' => ∃ v', e = .returned v' ∧ w'.ownsRow w.heap.size 3 1 v' n ((zs.take n).map (Value.int .i64)) ∧ v' ≠ .slice none 0 0 ∧ Below w.heap.size w w' := Any.slices_Clone_int Try.laysNm215 b off n c zs w hz hbig hc
open Go.RowKit Go.Lib in
/-- The same at nil: nil comes back; the world is as it was. (LAID: no walk: one application.) -/
theorem Try.slices_Clone_int_nil (n c : Nat) (w : World) :
    Calls Try.prog 32 #[.slice none n c] w fun e w' => e = .returned (.slice none 0 0) ∧ w' = w := Any.slices_Clone_int_nil Try.laysNm215 n c w
open Go.RowKit Go.Lib in
/-- The same at a slice of length 0 that is not nil, WHATEVER ITS ADDRESS (no cell is asked for): a slice that is not nil and owns nothing comes back. (LAID: no walk: one application.) -/
theorem Try.slices_Clone_int_zero (a : Addr) (c : Nat) (w : World) :
    Calls Try.prog 32 #[.slice (some a) 0 c] w fun e w' => ∃ v', e = .returned v' ∧ w'.ownsRow w.heap.size 3 1 v' 0 [] ∧ v' ≠ .slice none 0 0 ∧ Below w.heap.size w w' := Any.slices_Clone_int_zero Try.laysNm215 a c w
end Go.Proofs

/-! A row of nodes of a call's own, that grows by renamed nodes. -/
namespace Go.Proofs.Ytjpogmomgmjmbaa
open Go.RowKit LexS ParS BigFrame
set_option maxHeartbeats 4000000
set_option linter.unusedVariables false

theorem own_zero {W : World} {b size n : Nat} {e : TypeId} {v : Value} {xs : List Value} (h : W.ownsRow b e size v n xs) : W.ownsRow 0 e size v n xs := by
  refine ⟨h.1, ?_⟩
  rcases h.2 with h2 | ⟨g, cap, cur, h2, _, h4⟩
  · exact .inl h2
  · exact .inr ⟨g, cap, cur, h2, Nat.zero_le _, h4⟩
/-- A row of nodes of the call's own, and the rows of numbers of these; their other rows are anywhere. -/
def NO (W : World) (B : Nat) (v : Value) (ns : List Nd) : Prop := ∃ ms : List NodeM, ms.map (·.node) = ns ∧ W.ownsRow B 43 19 v ns.length (cellsM ms) ∧ ∀ m ∈ ms, MOk W 0 m ∧ W.ownsRow B 3 1 m.lv m.node.l.length (intsL m.node.l)
section
variable {W W' : World} {B b : Nat} {v v' : Value} {ns : List Nd} {m : NodeM} {ms : List NodeM}
theorem MOk.zero (h : MOk W b m) : MOk W 0 m := ⟨own_zero h.l, own_zero h.names, own_zero h.aggs⟩
theorem NO.nil : NO W B (.slice none 0 0) [] := ⟨[], rfl, nil_row, fun m hm => by cases hm⟩
theorem NO.kept (h : NO W B v ns) (hb : Below W.heap.size W W') : NO W' B v ns := by
  obtain ⟨ms, h1, h2, h3⟩ := h
  exact ⟨ms, h1, own_kept h2 hb, fun m hm => ⟨(h3 m hm).1.kept hb, own_kept (h3 m hm).2 hb⟩⟩
theorem NO.nr (h : NO W B v ns) : NR W v ns := by
  obtain ⟨ms, h1, h2, h3⟩ := h
  exact NS.nr (b := 0) ⟨ms, h1, own_zero h2, fun m hm => (h3 m hm).1⟩
/-- What owns a row of another type stays when a row of nodes grows. -/
theorem row_grown {n k size e2 : Nat} {u : Value} {xs ys : List Value} (h : W.ownsRow b e2 size u k ys) (he : e2 ≠ 43) (hv : W.ownsRow B 43 19 v n xs) (hg : W.grownBy W' v.ownBlock) : W'.ownsRow b e2 size u k ys := by
  refine h.kept hg ?_
  rcases hu : u.ownBlock with _ | i
  · exact .inl rfl
  · right
    intro e
    obtain ⟨c1, hc1⟩ := row_block h hu
    obtain ⟨c2, hc2⟩ := row_block hv e.symm
    exact he (block_types hc1 hc2)
theorem MOk.grown {n : Nat} {xs : List Value} (h : MOk W b m) (hv : W.ownsRow B 43 19 v n xs) (hg : W.grownBy W' v.ownBlock) : MOk W' b m :=
  ⟨row_grown h.l (by decide) hv hg, row_grown h.names (by decide) hv hg, row_grown h.aggs (by decide) hv hg⟩
theorem NO.grow (h1 : ms.map (·.node) = ns) (h2 : W.ownsRow B 43 19 v ns.length (cellsM ms)) (h3 : ∀ x ∈ ms, MOk W 0 x ∧ W.ownsRow B 3 1 x.lv x.node.l.length (intsL x.node.l)) (hm : MOk W 0 m) (hl : W.ownsRow B 3 1 m.lv m.node.l.length (intsL m.node.l)) (hg : W.grownBy W' v.ownBlock)
    (ho : W'.ownsRow B 43 19 v' (ns.length + 1) (cellsM ms ++ m.cells)) : NO W' B v' (ns ++ [m.node]) := by
  refine ⟨ms ++ [m], by rw [List.map_append, h1]; rfl, by rw [List.length_append, ← cellsM_app]; exact ho, fun x hx => ?_⟩
  rcases List.mem_append.1 hx with hx | hx
  · exact ⟨(h3 x hx).1.grown h2 hg, row_grown (h3 x hx).2 (by decide) h2 hg⟩
  · rw [List.mem_singleton] at hx
    subst hx
    exact ⟨hm.grown h2 hg, row_grown hl (by decide) h2 hg⟩
/-- A cell of a row of numbers below is written. -/
theorem NO.far {x i : Nat} {cs : Array Value} {u : Value} (h : NO W B v ns) (hx : Blk W x 3 cs) (hxB : x < B) : NO (W.setCell ⟨x, i, none⟩ u) B v ns := by
  obtain ⟨ms, h1, h2, h3⟩ := h
  refine ⟨ms, h1, row_far h2 hx (by decide) i u, fun m hm => ?_⟩
  obtain ⟨k1, k2⟩ := h3 m hm
  have k3 := ownsRow_setCell_below k2 (a := ⟨x, i, none⟩) hxB u
  exact ⟨⟨own_zero k3, row_far k1.names hx (by decide) i u, row_far k1.aggs hx (by decide) i u⟩, k3⟩
end
/-- A row of numbers whose first k were renamed. -/
def ren (now l : List Nat) (k : Nat) : List Nat := (l.take k).map (fun a => (now[a]?).getD 0) ++ l.drop k
theorem ren_zero (now l : List Nat) : ren now l 0 = l := by simp [ren]
theorem ren_all (now l : List Nat) : ren now l l.length = l.map fun a => (now[a]?).getD 0 := by simp [ren]
theorem ren_len (now l : List Nat) (k : Nat) : (ren now l k).length = l.length := by simp [ren]; omega
theorem ren_get (now : List Nat) {l : List Nat} {k : Nat} {a : Nat} (h : l[k]? = some a) : (ren now l k)[k]? = some a := by
  have hk := some_lt h
  unfold ren
  rw [List.getElem?_append_right (by simp; omega), List.length_map, List.length_take, Nat.min_eq_left (by omega), Nat.sub_self, List.getElem?_drop, Nat.add_zero, h]
theorem ren_set (now : List Nat) {l : List Nat} {k : Nat} {a : Nat} (h : l[k]? = some a) : (ren now l k).set k ((now[a]?).getD 0) = ren now l (k + 1) := by
  have hk := some_lt h
  have hd : l.drop k = a :: l.drop (k + 1) := by
    rw [List.drop_eq_getElem_cons hk]
    congr 1
    have := List.getElem?_eq_getElem hk
    rw [h] at this
    injection this with this
    exact this.symm
  have ht : l.take (k + 1) = l.take k ++ [a] := by rw [List.take_add_one, h]; rfl
  unfold ren
  rw [ht, hd, List.map_append, List.append_assoc, List.set_append_right _ _ (by simp; omega)]
  simp [Nat.min_eq_left (Nat.le_of_lt hk)]
/-- A row of numbers is cloned. -/
theorem clone_row {W : World} {b : Nat} {v : Value} {l : List Nat} (h : W.ownsRow b 3 1 v l.length (intsL l)) (hl : l.length ≤ 1000) :
    Calls Try.prog 32 #[v] W fun e W' => ∃ v', e = .returned v' ∧ W'.ownsRow W.heap.size 3 1 v' l.length (intsL l) ∧ Below W.heap.size W W' := by
  obtain ⟨p, c, hv, _, _, hc⟩ := ints_row h
  by_cases hne : l = []
  · subst hne
    rcases h.2 with ⟨h2, _⟩ | ⟨g, cap, cur, h2, _⟩
    · rw [h2]
      refine (Try.slices_Clone_int_nil 0 0 W).mono ?_
      rintro e w' ⟨rfl, rfl⟩
      exact ⟨_, rfl, nil_row, Below.refl _ _⟩
    · rw [h2]
      refine (Try.slices_Clone_int_zero ⟨g, 0, none⟩ cap W).mono ?_
      rintro e w' ⟨v', rfl, h3, _, h4⟩
      exact ⟨v', rfl, h3, h4⟩
  · obtain ⟨g, rfl, hg⟩ := hc hne
    rw [hv]
    refine (Try.slices_Clone_int g 0 l.length c (l.map fun (a : Nat) => (a : Int)) W (by simp) (by omega) (fun j hj => ?_)).mono ?_
    · rw [List.length_map] at hj
      rw [Nat.zero_add, hg j _ (List.getElem?_eq_getElem hj)]
      simp [List.getD, List.getElem?_eq_getElem hj]
    · rintro e w' ⟨v', rfl, h3, _, h4⟩
      refine ⟨v', rfl, ?_, h4⟩
      have e1 : ((l.map fun (a : Nat) => (a : Int)).take l.length).map (Value.int .i64) = intsL l := by
        rw [List.take_of_length_le (by simp), List.map_map]
        rfl
      rw [e1] at h3
      exact h3
end Go.Proofs.Ytjpogmomgmjmbaa
