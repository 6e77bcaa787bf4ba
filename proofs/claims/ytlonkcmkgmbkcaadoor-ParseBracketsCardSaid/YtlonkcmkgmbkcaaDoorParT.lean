/- What is read as a query is a tree: each node but the last is named by just one behind it. Plain lists, no program. -/
import Derived.Test.YtlonkcmkgmbkcaaDoorParS
namespace Go.Proofs.YtlonkcmkgmbkcaaDoor.ParS
open LexS
set_option linter.unusedVariables false

/-- The nodes of a condition that stand from place b on. -/
inductive CT : Nat → List Nd → Prop
  | leaf (b : Nat) (n : Nd) : n.kind = 14 ∨ n.kind = 15 → n.l = [] → CT b [n]
  | un (b : Nat) (ts : List Nd) (n : Nd) : CT b ts → n.kind = 13 → n.l = [b + ts.length - 1] → CT b (ts ++ [n])
  | bin (b : Nat) (ts us : List Nd) (n : Nd) : CT b ts → CT (b + ts.length) us → n.kind = 11 ∨ n.kind = 12 → n.l = [b + ts.length - 1, b + ts.length + us.length - 1] → CT b (ts ++ us ++ [n])
/-- The nodes of a query that stand from place b on. -/
inductive QT : Nat → List Nd → Prop
  | fetch (b : Nat) (n : Nd) : n.kind = 1 → n.l = [] → QT b [n]
  | step (b : Nat) (ts : List Nd) (n : Nd) : QT b ts → (n.kind = 3 ∨ n.kind = 4 ∨ n.kind = 5 ∨ n.kind = 6) → n.l = [b + ts.length - 1] → QT b (ts ++ [n])
  | where_ (b : Nat) (ts us : List Nd) (n : Nd) : QT b ts → CT (b + ts.length) us → n.kind = 2 → n.l = [b + ts.length - 1, b + ts.length + us.length - 1] → QT b (ts ++ us ++ [n])
  | join (b : Nat) (ts us : List Nd) (n : Nd) : QT b ts → QT (b + ts.length) us → n.kind = 7 ∨ n.kind = 8 → n.l = [b + ts.length - 1, b + ts.length + us.length - 1] → QT b (ts ++ us ++ [n])

theorem bind_ok {α β : Type} {p : M α} {f : α → M β} {ts : List Tk} {ns : List Nd} {r : β × List Tk × List Nd} (h : M.bind p f ts ns = .ok r) : ∃ a ts1 ns1, p ts ns = .ok (a, ts1, ns1) ∧ f a ts1 ns1 = .ok r := by
  unfold M.bind at h
  split at h
  · cases h
  · rename_i a ts1 ns1 e
    exact ⟨a, ts1, ns1, e, h⟩
/-- p lays nodes that are so, of which it tells the last one. -/
def Lays (p : M Nat) (T : Nat → List Nd → Prop) : Prop := ∀ ts ns a ts1 ns1, p ts ns = .ok (a, ts1, ns1) → ∃ ms, ns1 = ns ++ ms ∧ T ns.length ms ∧ ms ≠ [] ∧ a = ns.length + ms.length - 1
/-- p lays nothing. -/
def Still {α : Type} (p : M α) : Prop := ∀ ts ns a ts1 ns1, p ts ns = .ok (a, ts1, ns1) → ns1 = ns
theorem still_take (k : Nat) : Still (take k) := by
  intro ts ns a ts1 ns1 h
  unfold take at h
  split at h
  · cases h
  · split at h
    · cases h; rfl
    · cases h
theorem still_wants (w : Bytes) : Still (wants w) := by
  intro ts ns a ts1 ns1 h
  unfold wants at h
  split at h
  · cases h; rfl
  · cases h
theorem still_pure {α : Type} (a : α) : Still (M.pure a) := by
  intro ts ns b ts1 ns1 h
  cases h; rfl
theorem still_bind {α β : Type} {p : M α} {f : α → M β} (hp : Still p) (hf : ∀ a, Still (f a)) : Still (M.bind p f) := by
  intro ts ns b ts2 ns2 h
  obtain ⟨a, ts1, ns1, h1, h2⟩ := bind_ok h
  rw [hf a _ _ _ _ _ h2, hp _ _ _ _ _ h1]
theorem still_manyGo {α : Type} {f : M α} (hf : Still f) : ∀ (k : Nat) (acc : List α), Still (manyGo f k acc)
  | 0, acc => still_pure acc
  | k + 1, acc => by
    intro ts ns b ts2 ns2 h
    unfold manyGo at h
    split at h
    · cases h; rfl
    · exact still_bind hf (fun a => still_manyGo hf k (acc ++ [a])) _ _ _ _ _ h
theorem still_many {α : Type} {f : M α} (hf : Still f) : Still (many f) := still_bind hf fun a ts ns b ts1 ns1 h => still_manyGo hf _ _ _ _ _ _ _ h
theorem still_name : Still name := still_bind (still_take 1) fun _ => still_pure _
theorem still_agg : Still agg := by
  intro ts ns b ts2 ns2 h
  unfold agg at h
  split at h
  · cases h
  · cases h; rfl
  · exact still_bind (still_take 1) (fun _ => still_pure _) _ _ _ _ _ h
theorem still_value : Still value := by
  intro ts ns b ts2 ns2 h
  unfold value at h
  split at h
  · cases h; rfl
  · cases h; rfl
  · split at h
    · cases h
    · split at h
      · cases h; rfl
      · split at h
        · cases h; rfl
        · cases h
theorem still_times : Still times := by
  intro ts ns b ts2 ns2 h
  unfold times at h
  split at h
  · exact still_bind (still_take 2) (fun _ => still_bind (still_wants _) fun _ => still_bind (still_take 2) fun _ => still_pure _) _ _ _ _ _ h
  · cases h; rfl

theorem lays_leaf : Lays leaf CT := by
  intro ts ns a ts2 ns2 h
  obtain ⟨t, ts1, ns1, h1, h2⟩ := bind_ok h
  have e1 := still_take 1 _ _ _ _ _ h1
  subst e1
  split at h2
  · obtain ⟨u, ts3, ns3, h3, h4⟩ := bind_ok h2
    have e3 := still_take 3 _ _ _ _ _ h3
    subst e3
    cases h4
    exact ⟨_, rfl, CT.leaf _ _ (.inr rfl) rfl, by simp, rfl⟩
  · split at h2
    · cases h2
    · obtain ⟨u, ts3, ns3, h3, h4⟩ := bind_ok h2
      have e3 := still_value _ _ _ _ _ h3
      subst e3
      cases h4
      exact ⟨_, rfl, CT.leaf _ _ (.inl rfl) rfl, by simp, rfl⟩
theorem joined_ok {w : Bytes} {kind : Nat} {read : M Nat} (hk : kind = 11 ∨ kind = 12) (hr : Lays read CT) : ∀ (k a : Nat) (ts : List Tk) (ns ms : List Nd) (a2 : Nat) (ts2 : List Tk) (ns2 : List Nd),
    CT ns.length ms → ms ≠ [] → a = ns.length + ms.length - 1 → joinedGo w kind read k a ts (ns ++ ms) = .ok (a2, ts2, ns2) → ∃ ms2, ns2 = ns ++ ms2 ∧ CT ns.length ms2 ∧ ms2 ≠ [] ∧ a2 = ns.length + ms2.length - 1
  | 0, a, ts, ns, ms, a2, ts2, ns2, hc, hne, ha, h => by
    cases h
    exact ⟨ms, rfl, hc, hne, ha⟩
  | k + 1, a, ts, ns, ms, a2, ts2, ns2, hc, hne, ha, h => by
    unfold joinedGo at h
    split at h
    · cases h
      exact ⟨ms, rfl, hc, hne, ha⟩
    · obtain ⟨b, ts3, ns3, h3, h4⟩ := bind_ok h
      obtain ⟨us, rfl, hu, hune, rfl⟩ := hr _ _ _ _ _ h3
      obtain ⟨c, ts4, ns4, h5, h6⟩ := bind_ok h4
      cases h5
      rw [show ns ++ ms ++ us ++ [node kind [a, (ns ++ ms).length + us.length - 1]] = ns ++ (ms ++ us ++ [node kind [a, (ns ++ ms).length + us.length - 1]]) by simp] at h6
      refine joined_ok hk hr k _ _ ns (ms ++ us ++ [_]) _ _ _ ?_ (by simp) (by simp; omega) h6
      rw [List.length_append] at hu
      refine CT.bin _ _ _ _ hc hu hk ?_
      show [a, _] = _
      rw [ha, List.length_append]
theorem lays_joined {w : Bytes} {kind : Nat} {read : M Nat} (hk : kind = 11 ∨ kind = 12) (hr : Lays read CT) : Lays (joined w kind read) CT := by
  intro ts ns a ts2 ns2 h
  obtain ⟨b, ts1, ns1, h1, h2⟩ := bind_ok h
  obtain ⟨ms, rfl, hc, hne, hb⟩ := hr _ _ _ _ _ h1
  exact joined_ok hk hr _ _ _ ns ms _ _ _ hc hne hb h2
theorem lays_cond {n : M Nat} (h : Lays n CT) : Lays (condOf n) CT := lays_joined (.inr rfl) (lays_joined (.inl rfl) h)
theorem lays_shut {n : M Nat} {T : Nat → List Nd → Prop} (h : Lays n T) : Lays (shut n) T := by
  intro ts ns a ts2 ns2 e
  obtain ⟨b, ts1, ns1, h1, h2⟩ := bind_ok e
  obtain ⟨_, ts3, ns3, h3, h4⟩ := bind_ok h2
  have e3 := still_wants _ _ _ _ _ _ h3
  subst e3
  cases h4
  exact h _ _ _ _ _ h1
theorem lays_deep (T : Nat → List Nd → Prop) : Lays M.deep T := by
  intro ts ns a ts2 ns2 h
  cases h
theorem lays_notOf {p q : M Nat} (hp : Lays p CT) (hq : Lays q CT) : Lays (notOf p q) CT := by
  intro ts ns a ts2 ns2 h
  unfold notOf at h
  split at h
  · obtain ⟨b, ts1, ns1, h1, h2⟩ := bind_ok h
    obtain ⟨ms, rfl, hc, hne, hb⟩ := hp _ _ _ _ _ h1
    cases h2
    refine ⟨ms ++ [_], by rw [List.append_assoc], CT.un _ _ _ hc rfl (by rw [hb]; rfl), by simp, by simp⟩
  · split at h
    · exact hq _ _ _ _ _ h
    · exact lays_leaf _ _ _ _ _ h
theorem lays_not (d : Nat) : Lays (pNot d) CT := by
  induction d with
  | zero => exact lays_notOf (lays_deep _) (lays_deep _)
  | succ d ih => exact lays_notOf ih (lays_shut (lays_cond ih))
theorem lays_pCond (d : Nat) : Lays (pCond d) CT := lays_cond (lays_not d)
/-- A step behind some nodes. -/
theorem step_ok {inner cond : M Nat} (hi : Lays inner QT) (hc : Lays cond CT) {rows : Nat} {ts : List Tk} {ns ms : List Nd} (hq : QT ns.length ms) (hne : ms ≠ []) (hr : rows = ns.length + ms.length - 1) {a : Nat} {ts2 : List Tk} {ns2 : List Nd}
    (h : stepOf inner cond rows ts (ns ++ ms) = .ok (a, ts2, ns2)) : ∃ ms2, ns2 = ns ++ ms2 ∧ QT ns.length ms2 ∧ ms2 ≠ [] ∧ a = ns.length + ms2.length - 1 := by
  have one : ∀ (n : Nd) (x : Nat) (t3 : List Tk) (n3 : List Nd), lay n t3 (ns ++ ms) = .ok (a, ts2, n3) → (n.kind = 3 ∨ n.kind = 4 ∨ n.kind = 5 ∨ n.kind = 6) → n.l = [rows] → ∃ ms2, n3 = ns ++ ms2 ∧ QT ns.length ms2 ∧ ms2 ≠ [] ∧ a = ns.length + ms2.length - 1 := by
    intro n x t3 n3 hl hk hn
    cases hl
    exact ⟨ms ++ [n], by rw [List.append_assoc], QT.step _ _ _ hq hk (by rw [hn, hr]), by simp, by simp⟩
  have two : ∀ (n : Nd) (us : List Nd) (t3 : List Tk) (n3 : List Nd), lay n t3 (ns ++ ms ++ us) = .ok (a, ts2, n3) → (CT (ns.length + ms.length) us ∧ n.kind = 2 ∨ QT (ns.length + ms.length) us ∧ (n.kind = 7 ∨ n.kind = 8)) → us ≠ [] → n.l = [rows, ns.length + ms.length + us.length - 1] → ∃ ms2, n3 = ns ++ ms2 ∧ QT ns.length ms2 ∧ ms2 ≠ [] ∧ a = ns.length + ms2.length - 1 := by
    intro n us t3 n3 hl hk hu hn
    cases hl
    refine ⟨ms ++ us ++ [n], by simp, ?_, by simp, by simp; omega⟩
    rcases hk with ⟨hk, hkk⟩ | ⟨hk, hkk⟩
    · exact QT.where_ _ _ _ _ hq hk hkk (by rw [hn, hr])
    · exact QT.join _ _ _ _ hq hk hkk (by rw [hn, hr])
  unfold stepOf at h
  split at h
  · obtain ⟨c, ts3, ns3, h3, h4⟩ := bind_ok h
    obtain ⟨us, rfl, hu, hune, rfl⟩ := hc _ _ _ _ _ h3
    rw [List.length_append] at hu h4
    exact two _ us _ _ h4 (.inl ⟨hu, rfl⟩) hune rfl
  · obtain ⟨c, ts3, ns3, h3, h4⟩ := bind_ok h
    have e3 := still_many still_name _ _ _ _ _ h3
    subst e3
    exact one _ 0 _ _ h4 (.inl rfl) rfl
  · obtain ⟨c, ts3, ns3, h3, h4⟩ := bind_ok h
    have e3 := still_take _ _ _ _ _ _ h3
    subst e3
    exact one _ 0 _ _ h4 (.inr (.inl rfl)) rfl
  · obtain ⟨c, ts3, ns3, h3, h4⟩ := bind_ok h
    have e3 : ns3 = ns ++ ms := by
      split at h3
      · cases h3; rfl
      · exact still_many still_name _ _ _ _ _ h3
    subst e3
    obtain ⟨_, ts5, ns5, h5, h6⟩ := bind_ok h4
    have e5 := still_wants _ _ _ _ _ _ h5
    subst e5
    obtain ⟨g, ts7, ns7, h7, h8⟩ := bind_ok h6
    have e7 := still_many still_agg _ _ _ _ _ h7
    subst e7
    exact one _ 0 _ _ h8 (.inr (.inr (.inl rfl))) rfl
  · obtain ⟨c, ts3, ns3, h3, h4⟩ := bind_ok h
    have e3 := still_take _ _ _ _ _ _ h3
    subst e3
    obtain ⟨_, ts5, ns5, h5, h6⟩ := bind_ok h4
    have e5 := still_wants _ _ _ _ _ _ h5
    subst e5
    obtain ⟨g, ts7, ns7, h7, h8⟩ := bind_ok h6
    have e7 := still_take _ _ _ _ _ _ h7
    subst e7
    exact one _ 0 _ _ h8 (.inr (.inr (.inr rfl))) rfl
  · obtain ⟨_, ts3, ns3, h3, h4⟩ := bind_ok h
    have e3 := still_wants _ _ _ _ _ _ h3
    subst e3
    obtain ⟨c, ts5, ns5, h5, h6⟩ := bind_ok h4
    obtain ⟨us, rfl, hu, hune, rfl⟩ := hi _ _ _ _ _ h5
    rw [List.length_append] at hu h6
    exact two _ us _ _ h6 (.inr ⟨hu, .inl rfl⟩) hune rfl
  · obtain ⟨_, ts3, ns3, h3, h4⟩ := bind_ok h
    have e3 := still_wants _ _ _ _ _ _ h3
    subst e3
    obtain ⟨c, ts5, ns5, h5, h6⟩ := bind_ok h4
    obtain ⟨us, rfl, hu, hune, rfl⟩ := hi _ _ _ _ _ h5
    rw [List.length_append] at hu h6
    exact two _ us _ _ h6 (.inr ⟨hu, .inr rfl⟩) hune rfl
  · cases h
theorem steps_ok {inner cond : M Nat} (hi : Lays inner QT) (hc : Lays cond CT) : ∀ (k : Nat) (rows : Nat) (ts : List Tk) (ns ms : List Nd), QT ns.length ms → ms ≠ [] → rows = ns.length + ms.length - 1 → ∀ (a : Nat) (ts2 : List Tk) (ns2 : List Nd),
    stepsGo (stepOf inner cond) k rows ts (ns ++ ms) = .ok (a, ts2, ns2) → ∃ ms2, ns2 = ns ++ ms2 ∧ QT ns.length ms2 ∧ ms2 ≠ [] ∧ a = ns.length + ms2.length - 1
  | 0, rows, ts, ns, ms, hq, hne, hr, a, ts2, ns2, h => by
    cases h
    exact ⟨ms, rfl, hq, hne, hr⟩
  | k + 1, rows, ts, ns, ms, hq, hne, hr, a, ts2, ns2, h => by
    unfold stepsGo at h
    split at h
    · cases h
      exact ⟨ms, rfl, hq, hne, hr⟩
    · obtain ⟨b, ts3, ns3, h3, h4⟩ := bind_ok h
      obtain ⟨ms3, rfl, hq3, hne3, hr3⟩ := step_ok hi hc hq hne hr h3
      exact steps_ok hi hc k b ts3 ns ms3 hq3 hne3 hr3 a ts2 ns2 h4
theorem lays_queryOf {inner cond : M Nat} (hi : Lays inner QT) (hc : Lays cond CT) : Lays (queryOf (stepOf inner cond)) QT := by
  intro ts ns a ts2 ns2 h
  obtain ⟨_, ts3, ns3, h3, h4⟩ := bind_ok h
  have e3 := still_wants _ _ _ _ _ _ h3
  subst e3
  obtain ⟨t, ts5, ns5, h5, h6⟩ := bind_ok h4
  have e5 := still_take _ _ _ _ _ _ h5
  subst e5
  obtain ⟨x, ts7, ns7, h7, h8⟩ := bind_ok h6
  have e7 := still_times _ _ _ _ _ h7
  subst e7
  obtain ⟨b, ts9, ns9, h9, h10⟩ := bind_ok h8
  cases h9
  exact steps_ok hi hc _ _ _ _ [_] (QT.fetch _ _ rfl rfl) (by simp) rfl _ _ _ h10
theorem lays_inner (d : Nat) : Lays (pInner d) QT := by
  induction d with
  | zero => exact lays_deep _
  | succ d ih => exact lays_shut (lays_queryOf ih (lays_pCond d))
theorem lays_query (d : Nat) : Lays (pQuery d) QT := lays_queryOf (lays_inner d) (lays_pCond d)

/-- What is read is a tree. -/
theorem parse_tree {l : List Tok} {ns : List Nd} {n : Nat} (h : parseS l = (ns, n, 0)) : QT 0 ns ∧ ns ≠ [] ∧ ns.length ≤ 128 := by
  unfold parseS parseAll at h
  split at h
  · cases h
  · split at h
    · rename_i k e he
      cases e <;> cases h
    · rename_i a ts ns1 he
      split at h
      · cases h
      · split at h
        · cases h
        · cases h
          obtain ⟨ms, rfl, hq, hne, _⟩ := lays_query 16 _ _ _ _ _ he
          exact ⟨hq, hne, by omega⟩
end Go.Proofs.YtlonkcmkgmbkcaaDoor.ParS
