/- Several texts of the proof, joined. -/
import Derived.Test.YtnaehhpikhlppaaGreatDoorD6
import Derived.Test.YtnaehhpikhlppaaGreatDoorD1
set_option maxHeartbeats 4000000
set_option linter.unusedVariables false
set_option linter.unusedSimpArgs false
namespace Go.Proofs.YtnaehhpikhlppaaGreatDoor.ParS
open LexS

theorem sep_app {l : List (List Tk)} (h : l ≠ []) (x : List Tk) : sep (l ++ [x]) = sep l ++ [sg kw_comma] ++ x := by
  cases l with
  | nil => exact absurd rfl h
  | cons y l => simp [sep]
theorem many_gives {α : Type} {f : M α} {T : α → List Tk} {Pr : α → Prop} (hf : ∀ ts ns x ts1 ns1, f ts ns = .ok (x, ts1, ns1) → ns1 = ns ∧ Pr x ∧ ∃ used, ts = used ++ ts1 ∧ From used (T x)) :
    ∀ (k : Nat) (acc : List α) (used ts : List Tk) (ns : List Nd) (xs : List α) (ts1 : List Tk) (ns1 : List Nd), acc ≠ [] → (∀ x ∈ acc, Pr x) → From used (sep (acc.map T)) → manyGo f k acc ts ns = .ok (xs, ts1, ns1) →
      ns1 = ns ∧ xs ≠ [] ∧ xs.head? = acc.head? ∧ (∀ x ∈ xs, Pr x) ∧ ∃ used2, used ++ ts = used2 ++ ts1 ∧ From used2 (sep (xs.map T))
  | 0, acc, used, ts, ns, xs, ts1, ns1, hne, hp, hu, h => by
    cases h
    exact ⟨rfl, hne, rfl, hp, used, rfl, hu⟩
  | k + 1, acc, used, ts, ns, xs, ts1, ns1, hne, hp, hu, h => by
    unfold manyGo at h
    split at h
    · cases h
      exact ⟨rfl, hne, rfl, hp, used, rfl, hu⟩
    · rename_i ts2 e
      obtain ⟨t, rfl⟩ := sees_some e
      obtain ⟨x, ts3, ns3, h3, h4⟩ := bind_ok h
      obtain ⟨rfl, px, u3, rfl, f3⟩ := hf _ _ _ _ _ h3
      have := many_gives hf k (acc ++ [x]) (used ++ [t] ++ u3) ts3 ns3 xs ts1 ns1 (by simp) (fun y hy => by
        rcases List.mem_append.1 hy with hy | hy
        · exact hp y hy
        · rw [List.mem_singleton] at hy
          rw [hy]
          exact px) (by
        rw [List.map_append, List.map_cons, List.map_nil, sep_app (by simpa using hne)]
        exact (hu.app (From.kw t (by decide))).app f3) h4
      obtain ⟨g1, g2, g3, g4, u, g5, g6⟩ := this
      refine ⟨g1, g2, ?_, g4, u, ?_, g6⟩
      · rw [g3]
        cases acc with
        | nil => exact absurd rfl hne
        | cons y l => rfl
      · rw [← g5]
        simp
theorem many_all {α : Type} {f : M α} {T : α → List Tk} {Pr : α → Prop} (hf : ∀ ts ns x ts1 ns1, f ts ns = .ok (x, ts1, ns1) → ns1 = ns ∧ Pr x ∧ ∃ used, ts = used ++ ts1 ∧ From used (T x)) {ts : List Tk} {ns : List Nd} {xs : List α} {ts1 : List Tk} {ns1 : List Nd} (h : many f ts ns = .ok (xs, ts1, ns1)) :
    ns1 = ns ∧ xs ≠ [] ∧ (∃ x ts3, f ts ns = .ok (x, ts3, ns) ∧ xs.head? = some x) ∧ (∀ x ∈ xs, Pr x) ∧ ∃ used, ts = used ++ ts1 ∧ From used (sep (xs.map T)) := by
  obtain ⟨x, ts3, ns3, h3, h4⟩ := bind_ok h
  obtain ⟨rfl, px, u3, e3, f3⟩ := hf _ _ _ _ _ h3
  obtain ⟨g1, g2, g3, g4, u, g5, g6⟩ := many_gives hf _ [x] u3 ts3 ns3 xs ts1 ns1 (by simp) (fun y hy => by rw [List.mem_singleton] at hy; rw [hy]; exact px) (by simpa [sep] using f3) h4
  exact ⟨g1, g2, ⟨x, ts3, h3, g3⟩, g4, u, by rw [e3]; exact g5, g6⟩
theorem name_ok {ts : List Tk} {ns : List Nd} {x : Bytes} {ts1 : List Tk} {ns1 : List Nd} (h : name ts ns = .ok (x, ts1, ns1)) : ns1 = ns ∧ True ∧ ∃ used, ts = used ++ ts1 ∧ From used [wd x] := by
  obtain ⟨t, ts3, ns3, h3, h4⟩ := bind_ok h
  obtain ⟨rfl, hk, rfl⟩ := take_ok h3
  cases h4
  exact ⟨rfl, trivial, [t], rfl, From.own (norm1 hk).symm⟩
theorem names_ok {ts : List Tk} {ns : List Nd} {l : List Bytes} {ts1 : List Tk} {ns1 : List Nd} (h : names ts ns = .ok (l, ts1, ns1)) : ns1 = ns ∧ l ≠ [] ∧ (∃ t r, ts = t :: r ∧ t.kind = 1 ∧ l.head? = some t.s) ∧ ∃ used, ts = used ++ ts1 ∧ From used (namesT l) := by
  obtain ⟨h1, h2, ⟨x, ts3, h3, h4⟩, _, h5⟩ := many_all (f := name) (T := fun s => [wd s]) (Pr := fun _ => True) (fun _ _ _ _ _ h => name_ok h) h
  refine ⟨h1, h2, ?_, h5⟩
  obtain ⟨t, ts4, ns4, h6, h7⟩ := bind_ok h3
  obtain ⟨rfl, hk, rfl⟩ := take_ok h6
  cases h7
  exact ⟨t, _, rfl, hk, h4⟩
theorem kw_agg {k : Nat} (h1 : 1 ≤ k) (h2 : k ≤ 6) : Kw (wd (aggW k)) := by
  have : k = 1 ∨ k = 2 ∨ k = 3 ∨ k = 4 ∨ k = 5 ∨ k = 6 := by omega
  rcases this with rfl | rfl | rfl | rfl | rfl | rfl <;> decide
theorem agg_ok {ts : List Tk} {ns : List Nd} {x : Nat × Bytes} {ts1 : List Tk} {ns1 : List Nd} (h : agg ts ns = .ok (x, ts1, ns1)) : ns1 = ns ∧ AggOk x ∧ ∃ used, ts = used ++ ts1 ∧ From used (aggT x) := by
  unfold agg at h
  split at h
  · cases h
  · rename_i ts2 e
    cases h
    rcases choice_ok _ _ _ _ _ e with h | ⟨_, _, t, rfl⟩
    · cases h
    · exact ⟨rfl, .inl rfl, [t], rfl, From.kw t (by decide)⟩
  · rename_i k ts2 e
    obtain ⟨u, ts3, ns3, h3, h4⟩ := bind_ok h
    obtain ⟨rfl, hk, rfl⟩ := take_ok h3
    cases h4
    rcases choice_ok _ _ _ _ _ e with h | ⟨_, hk6, t, rfl⟩
    · cases h
    · have hk6' : k + 2 < 1 + 6 := hk6
      refine ⟨rfl, .inr ⟨Nat.le_add_left _ _, by show k + 2 ≤ 6; omega⟩, [t] ++ [u], rfl, ?_⟩
      show From ([t] ++ [u]) (if k + 2 = 1 then _ else _)
      rw [if_neg (by omega)]
      exact (From.kw t (kw_agg (by omega) (by omega))).app (From.own (norm1 hk).symm)
theorem aggs_ok {ts : List Tk} {ns : List Nd} {l : List (Nat × Bytes)} {ts1 : List Tk} {ns1 : List Nd} (h : aggs ts ns = .ok (l, ts1, ns1)) : ns1 = ns ∧ l ≠ [] ∧ (∀ a ∈ l, AggOk a) ∧ ∃ used, ts = used ++ ts1 ∧ From used (aggsT l) := by
  obtain ⟨h1, h2, _, h4, h5⟩ := many_all (f := agg) (T := aggT) (Pr := AggOk) (fun _ _ _ _ _ h => agg_ok h) h
  exact ⟨h1, h2, h4, h5⟩
def timesT (f t : Int) : List Tk := if f = 0 ∧ t = 1099511627775 then [] else [wd kw_from, nm f, wd kw_to, nm t]
theorem times_ok {ts : List Tk} {ns : List Nd} {x : Int × Int} {ts1 : List Tk} {ns1 : List Nd} (h : times ts ns = .ok (x, ts1, ns1)) : ns1 = ns ∧ ∃ used, ts = used ++ ts1 ∧ From used (timesT x.1 x.2) := by
  unfold times at h
  split at h
  · rename_i ts2 e
    obtain ⟨t, rfl⟩ := sees_some e
    obtain ⟨f, ts3, ns3, h3, h4⟩ := bind_ok h
    obtain ⟨rfl, hk, rfl⟩ := take_ok h3
    obtain ⟨u, ts5, ns5, h5, h6⟩ := bind_ok h4
    obtain ⟨⟨y, rfl⟩, rfl⟩ := wants_ok h5
    obtain ⟨g, ts7, ns7, h7, h8⟩ := bind_ok h6
    obtain ⟨rfl, hk7, rfl⟩ := take_ok h7
    cases h8
    refine ⟨rfl, [t] ++ [f] ++ [y] ++ [g], rfl, ?_⟩
    have hall : From ([t] ++ [f] ++ [y] ++ [g]) ([wd kw_from] ++ [nm f.n] ++ [wd kw_to] ++ [nm g.n]) := (((From.kw t (by decide)).app (From.own (norm2 hk).symm)).app (From.kw y (by decide))).app (From.own (norm2 hk7).symm)
    unfold timesT
    split
    · exact hall.less (by simp) (fun x hx => by cases hx)
    · exact hall
  · cases h
    refine ⟨rfl, [], rfl, ?_⟩
    unfold timesT
    rw [if_pos ⟨rfl, rfl⟩]
    exact From.nil
/-- What p reads is a query that may be printed. -/
def GivesQ (p : M Nat) (d : Nat) : Prop := ∀ ts ns a ts1 ns1, p ts ns = .ok (a, ts1, ns1) → ∃ (q : Qr) (used : List Tk), ts = used ++ ts1 ∧ ns1 = ns ++ q.flat ns.length ∧ a = ns.length + q.len - 1 ∧ q.Ok ∧ q.deep ≤ d ∧ From used q.tok
def GivesI (p : M Nat) (d : Nat) : Prop := ∀ ts ns a ts1 ns1, p ts ns = .ok (a, ts1, ns1) → ∃ (q : Qr) (used : List Tk), ts = used ++ ts1 ∧ ns1 = ns ++ q.flat ns.length ∧ a = ns.length + q.len - 1 ∧ q.Ok ∧ q.deep + 1 ≤ d ∧ From used (q.tok ++ [sg kw_shut])
theorem bar_step {used u2 qt X : List Tk} {k : Nat} (t s : Tk) (h1 : 2 ≤ k) (h2 : k ≤ 8) (hu : From used qt) (hx : From u2 X) : From (used ++ [t] ++ ([s] ++ u2)) (qt ++ ([sg kw_bar] ++ ([wd (stepW k)] ++ X))) := by
  have hk : Kw (wd (stepW k)) := by
    have : k = 2 ∨ k = 3 ∨ k = 4 ∨ k = 5 ∨ k = 6 ∨ k = 7 ∨ k = 8 := by omega
    rcases this with rfl | rfl | rfl | rfl | rfl | rfl | rfl <;> decide
  rw [List.append_assoc]
  exact hu.app ((From.kw t (by decide)).app ((From.kw s hk).app hx))
theorem step_gives {inner cond : M Nat} {d : Nat} (hi : GivesI inner d) (hc : GivesC cond 1 d) {q : Qr} {ns : List Nd} {used ts : List Tk} {a : Nat} {ts2 : List Tk} {ns2 : List Nd} (t : Tk) (ok : q.Ok) (hd : q.deep ≤ d) (hu : From used q.tok)
    (h : stepOf inner cond (ns.length + q.len - 1) ts (ns ++ q.flat ns.length) = .ok (a, ts2, ns2)) :
    ∃ (q2 : Qr) (u2 : List Tk), ts = u2 ++ ts2 ∧ ns2 = ns ++ q2.flat ns.length ∧ a = ns.length + q2.len - 1 ∧ q2.Ok ∧ q2.deep ≤ d ∧ From (used ++ [t] ++ u2) q2.tok := by
  have hp := q.pos
  have e1 : (ns ++ q.flat ns.length).length = ns.length + q.len := by rw [List.length_append, q.flat_len]
  unfold stepOf at h
  split at h
  · rename_i ts1 e
    rcases choice_ok _ _ _ _ _ e with h0 | ⟨_, _, s, rfl⟩
    · cases h0
    obtain ⟨b, ts3, ns3, h3, h4⟩ := bind_ok h
    obtain ⟨c, u, rfl, rfl, rfl, okc, hdc, hfc⟩ := hc _ _ _ _ _ h3
    cases h4
    rw [c.tok1] at hfc
    rw [c.deep1] at hdc
    have hq := c.pos
    refine ⟨.where_ q c, [s] ++ u, rfl, ?_, ?_, ⟨ok, okc⟩, ?_, ?_⟩
    · rw [e1]; simp only [Qr.flat, List.append_assoc]
    · rw [List.length_append, e1, c.flat_len]; show _ = ns.length + (q.len + c.len + 1) - 1; omega
    · show max q.deep (c.deep 0) ≤ d; rw [c.deep0]; omega
    · have := bar_step (k := 2) t s (by decide) (by decide) hu (show From u (c.tok 0) by rw [c.tok0]; exact hfc)
      simpa [Qr.tok] using this
  · rename_i ts1 e
    rcases choice_ok _ _ _ _ _ e with h0 | ⟨_, _, s, rfl⟩
    · cases h0
    obtain ⟨l, ts3, ns3, h3, h4⟩ := bind_ok h
    obtain ⟨rfl, hne, _, u, rfl, hf⟩ := names_ok h3
    cases h4
    refine ⟨.keep q l, [s] ++ u, rfl, by simp only [Qr.flat, List.append_assoc], by rw [e1]; show _ = ns.length + (q.len + 1) - 1; omega, ⟨ok, hne⟩, hd, ?_⟩
    have := bar_step (k := 3) t s (by decide) (by decide) hu hf
    simpa [Qr.tok] using this
  · rename_i ts1 e
    rcases choice_ok _ _ _ _ _ e with h0 | ⟨_, _, s, rfl⟩
    · cases h0
    obtain ⟨x, ts3, ns3, h3, h4⟩ := bind_ok h
    obtain ⟨rfl, hk, rfl⟩ := take_ok h3
    cases h4
    refine ⟨.align q x.n, [s] ++ [x], rfl, by simp only [Qr.flat, List.append_assoc], by rw [e1]; show _ = ns.length + (q.len + 1) - 1; omega, ok, hd, ?_⟩
    have := bar_step (k := 4) t s (by decide) (by decide) hu (From.own (norm2 hk).symm)
    simpa [Qr.tok] using this
  · rename_i ts1 e
    rcases choice_ok _ _ _ _ _ e with h0 | ⟨_, _, s, rfl⟩
    · cases h0
    obtain ⟨l, ts3, ns3, h3, h4⟩ := bind_ok h
    have hl : ns3 = ns ++ q.flat ns.length ∧ (∀ x, l.head? = some x → x ≠ kw_colon) ∧ ∃ u, ts1 = u ++ ts3 ∧ From u (namesT l) := by
      split at h3
      · cases h3
        exact ⟨rfl, fun x hx => (by cases hx), [], rfl, From.nil⟩
      · rename_i hno
        obtain ⟨g1, g2, ⟨y, r, rfl, hk, hh⟩, g3⟩ := names_ok h3
        refine ⟨g1, fun x hx => ?_, g3⟩
        rw [hh] at hx
        injection hx with hx
        rintro rfl
        rw [sees_cons, show isW kw_colon y = true by simp [isW, hk, hx]] at hno
        cases hno
    obtain ⟨rfl, hcol, u, rfl, hf⟩ := hl
    obtain ⟨w, ts5, ns5, h5, h6⟩ := bind_ok h4
    obtain ⟨⟨y, rfl⟩, rfl⟩ := wants_ok h5
    obtain ⟨g, ts7, ns7, h7, h8⟩ := bind_ok h6
    obtain ⟨rfl, gne, gok, u2, rfl, hf2⟩ := aggs_ok h7
    cases h8
    refine ⟨.group q l g, [s] ++ (u ++ [y] ++ u2), by simp, by simp only [Qr.flat, List.append_assoc], by rw [e1]; show _ = ns.length + (q.len + 1) - 1; omega, ⟨ok, hcol, gne, gok⟩, hd, ?_⟩
    have := bar_step (k := 5) t s (by decide) (by decide) hu ((hf.app (From.kw y (by decide : Kw (sg kw_colon)))).app hf2)
    simpa [Qr.tok] using this
  · rename_i ts1 e
    rcases choice_ok _ _ _ _ _ e with h0 | ⟨_, _, s, rfl⟩
    · cases h0
    obtain ⟨x, ts3, ns3, h3, h4⟩ := bind_ok h
    obtain ⟨rfl, hk, rfl⟩ := take_ok h3
    obtain ⟨w, ts5, ns5, h5, h6⟩ := bind_ok h4
    obtain ⟨⟨y, rfl⟩, rfl⟩ := wants_ok h5
    obtain ⟨z, ts7, ns7, h7, h8⟩ := bind_ok h6
    obtain ⟨rfl, hk7, rfl⟩ := take_ok h7
    cases h8
    refine ⟨.top q x.n z.s, [s] ++ ([x] ++ [y] ++ [z]), rfl, by simp only [Qr.flat, List.append_assoc], by rw [e1]; show _ = ns.length + (q.len + 1) - 1; omega, ok, hd, ?_⟩
    have := bar_step (k := 6) t s (by decide) (by decide) hu (((From.own (norm2 hk).symm).app (From.kw y (by decide : Kw (wd kw_by)))).app (From.own (norm1 hk7).symm))
    simpa [Qr.tok] using this
  · rename_i ts1 e
    rcases choice_ok _ _ _ _ _ e with h0 | ⟨_, _, s, rfl⟩
    · cases h0
    obtain ⟨w, ts5, ns5, h5, h6⟩ := bind_ok h
    obtain ⟨⟨y, rfl⟩, rfl⟩ := wants_ok h5
    obtain ⟨b, ts3, ns3, h3, h4⟩ := bind_ok h6
    obtain ⟨r, u, rfl, rfl, rfl, okr, hdr, hfr⟩ := hi _ _ _ _ _ h3
    cases h4
    have hq := r.pos
    refine ⟨.join q r, [s] ++ ([y] ++ u), rfl, ?_, ?_, ⟨ok, okr⟩, ?_, ?_⟩
    · rw [e1]; simp only [Qr.flat, List.append_assoc]
    · rw [List.length_append, e1, r.flat_len]; show _ = ns.length + (q.len + r.len + 1) - 1; omega
    · show max q.deep (r.deep + 1) ≤ d; omega
    · have := bar_step (k := 7) t s (by decide) (by decide) hu ((From.kw y (by decide : Kw (sg kw_open))).app hfr)
      simpa [Qr.tok] using this
  · rename_i ts1 e
    rcases choice_ok _ _ _ _ _ e with h0 | ⟨_, _, s, rfl⟩
    · cases h0
    obtain ⟨w, ts5, ns5, h5, h6⟩ := bind_ok h
    obtain ⟨⟨y, rfl⟩, rfl⟩ := wants_ok h5
    obtain ⟨b, ts3, ns3, h3, h4⟩ := bind_ok h6
    obtain ⟨r, u, rfl, rfl, rfl, okr, hdr, hfr⟩ := hi _ _ _ _ _ h3
    cases h4
    have hq := r.pos
    refine ⟨.union q r, [s] ++ ([y] ++ u), rfl, ?_, ?_, ⟨ok, okr⟩, ?_, ?_⟩
    · rw [e1]; simp only [Qr.flat, List.append_assoc]
    · rw [List.length_append, e1, r.flat_len]; show _ = ns.length + (q.len + r.len + 1) - 1; omega
    · show max q.deep (r.deep + 1) ≤ d; omega
    · have := bar_step (k := 8) t s (by decide) (by decide) hu ((From.kw y (by decide : Kw (sg kw_open))).app hfr)
      simpa [Qr.tok] using this
  · cases h
theorem steps_give {inner cond : M Nat} {d : Nat} (hi : GivesI inner d) (hc : GivesC cond 1 d) : ∀ (k : Nat) (q : Qr) (ns : List Nd) (used : List Tk), q.Ok → q.deep ≤ d → From used q.tok → ∀ (ts : List Tk) (a : Nat) (ts2 : List Tk) (ns2 : List Nd),
    stepsGo (stepOf inner cond) k (ns.length + q.len - 1) ts (ns ++ q.flat ns.length) = .ok (a, ts2, ns2) → ∃ (q2 : Qr) (u2 : List Tk), used ++ ts = u2 ++ ts2 ∧ ns2 = ns ++ q2.flat ns.length ∧ a = ns.length + q2.len - 1 ∧ q2.Ok ∧ q2.deep ≤ d ∧ From u2 q2.tok
  | 0, q, ns, used, ok, hd, hu, ts, a, ts2, ns2, h => by
    cases h
    exact ⟨q, used, rfl, rfl, rfl, ok, hd, hu⟩
  | k + 1, q, ns, used, ok, hd, hu, ts, a, ts2, ns2, h => by
    unfold stepsGo at h
    split at h
    · cases h
      exact ⟨q, used, rfl, rfl, rfl, ok, hd, hu⟩
    · rename_i ts1 e
      obtain ⟨t, rfl⟩ := sees_some e
      obtain ⟨b, ts3, ns3, h3, h4⟩ := bind_ok h
      obtain ⟨q2, u2, rfl, rfl, rfl, ok2, hd2, hf2⟩ := step_gives hi hc t ok hd hu h3
      obtain ⟨q3, u3, g1, g2⟩ := steps_give hi hc k q2 ns _ ok2 hd2 hf2 _ _ _ _ h4
      exact ⟨q3, u3, by rw [← g1]; simp, g2⟩
theorem gives_queryOf {inner cond : M Nat} {d : Nat} (hi : GivesI inner d) (hc : GivesC cond 1 d) : GivesQ (queryOf (stepOf inner cond)) d := by
  intro ts ns a ts2 ns2 h
  obtain ⟨w, ts3, ns3, h3, h4⟩ := bind_ok h
  obtain ⟨⟨x, rfl⟩, rfl⟩ := wants_ok h3
  obtain ⟨t, ts5, ns5, h5, h6⟩ := bind_ok h4
  obtain ⟨rfl, hk, rfl⟩ := take_ok h5
  obtain ⟨y, ts7, ns7, h7, h8⟩ := bind_ok h6
  obtain ⟨rfl, u, rfl, hf⟩ := times_ok h7
  obtain ⟨b, ts9, ns9, h9, h10⟩ := bind_ok h8
  cases h9
  have h0 : From ([x] ++ [t] ++ u) (Qr.tok (.fetch t.s y.1 y.2)) := ((From.kw x (by decide : Kw (wd kw_fetch))).app (From.own (norm1 hk).symm)).app hf
  obtain ⟨q3, u3, g1, g2⟩ := steps_give hi hc fuel (.fetch t.s y.1 y.2) ns7 ([x] ++ [t] ++ u) trivial (Nat.zero_le _) h0 _ _ _ _ h10
  exact ⟨q3, u3, by rw [← g1]; simp, g2⟩
theorem gives_inner : ∀ d, GivesI (pInner d) d
  | 0 => fun ts ns a ts1 ns1 h => by cases h
  | d + 1 => by
    intro ts ns a ts2 ns2 h
    obtain ⟨b, ts1, ns1, h1, h2⟩ := bind_ok h
    obtain ⟨q, u, rfl, rfl, rfl, ok, hd, hf⟩ := gives_queryOf (gives_inner d) (gives_pCond d) _ _ _ _ _ h1
    obtain ⟨w, ts3, ns3, h3, h4⟩ := bind_ok h2
    obtain ⟨⟨x, rfl⟩, rfl⟩ := wants_ok h3
    cases h4
    exact ⟨q, u ++ [x], by simp, rfl, rfl, ok, by omega, hf.app (From.kw x (by decide))⟩
/-- What a text is read as is a query that may be printed. -/
theorem parse_gives {l : List Tok} {ns : List Nd} {n : Nat} (h : parseS l = (ns, n, 0)) : ∃ q : Qr, ns = q.flat 0 ∧ q.Ok ∧ q.deep ≤ 16 ∧ q.len ≤ 128 ∧ q.tok.length ≤ 1024 ∧ ∀ t ∈ q.tok, Kw t ∨ ∃ u ∈ l, t = norm (tk u) := by
  unfold parseS parseAll at h
  split at h
  · cases h
  · rename_i hl
    split at h
    · rename_i k e he
      cases e <;> cases h
    · rename_i a ts ns1 he
      split at h
      · cases h
      · rename_i hts
        split at h
        · cases h
        · rename_i hns
          cases h
          have hts' : ts = [] := by
            rcases ts with _ | ⟨t, ts⟩
            · rfl
            · exact absurd (by simp) hts
          subst hts'
          obtain ⟨q, u, e1, e2, _, ok, hd, hf⟩ := gives_queryOf (gives_inner 16) (gives_pCond 16) _ _ _ _ _ he
          rw [List.append_nil] at e1
          refine ⟨q, by simpa using e2, ok, hd, ?_, ?_, fun t ht => ?_⟩
          · rw [e2, List.nil_append, q.flat_len] at hns
            omega
          · have := hf.1
            rw [← e1] at this
            omega
          · rcases hf.2 t ht with h1 | ⟨x, hx, e⟩
            · exact .inl h1
            · rw [← e1] at hx
              obtain ⟨y, hy, rfl⟩ := List.mem_map.1 hx
              exact .inr ⟨y, hy, e⟩
end Go.Proofs.YtnaehhpikhlppaaGreatDoor.ParS

namespace Go.Proofs.YtnaehhpikhlppaaGreatDoor.LexS

theorem while_ahead (p : UInt8 → Bool) (l : Bytes) (b : UInt8) (t : Bytes) (h : p b = false) : while_ p (l ++ b :: t) = while_ p l := by
  induction l with
  | nil => simp [while_, h]
  | cons c r ih =>
    show (if p c then while_ p (r ++ b :: t) + 1 else 0) = if p c then while_ p r + 1 else 0
    rw [ih]
theorem take_ahead (l t : Bytes) (n : Nat) (h : n ≤ l.length) : (l ++ t).take n = l.take n := List.take_append_of_le_length h
theorem textFrom_ahead : ∀ (l acc : Bytes) (i : Nat) (t : Bytes) (y : Bytes × Nat), textFrom acc i l = some y → textFrom acc i (l ++ t) = some y := by
  intro l
  induction hm : l.length using Nat.strongRecOn generalizing l with
  | _ m ih =>
    intro acc i t y h
    match l, hm, h with
    | [], _, h => simp [textFrom] at h
    | c :: r, hm, h =>
      simp only [List.length_cons] at hm
      rw [List.cons_append]
      unfold textFrom at h ⊢
      split at h
      · rename_i h1; rw [if_pos h1]; exact h
      · rename_i h1
        rw [if_neg h1]
        split at h
        · rename_i h2
          rw [if_pos h2]
          match r, hm, h with
          | [], _, h => simp at h
          | d :: r', hm, h =>
            dsimp only [List.cons_append] at h ⊢
            simp only [List.length_cons] at hm
            split at h
            · rename_i h3; rw [if_pos h3]; exact ih r'.length (by omega) r' rfl _ _ _ _ h
            · cases h
        · rename_i h2
          rw [if_neg h2]
          exact ih r.length (by omega) r rfl _ _ _ _ h
/-- A byte that no token goes on with. -/
def TokEnd (b : UInt8) : Prop := innerB b = false ∧ digitB b = false ∧ b.toNat ≠ 61
theorem one_ends (l : Bytes) (b : UInt8) (t : Bytes) (hb : TokEnd b) (hn : (oneS l).2 ≠ 0) : oneS (l ++ b :: t) = oneS l := by
  obtain ⟨i1, i2, i3⟩ := hb
  match l, hn with
  | [], hn => exact absurd rfl hn
  | c :: r, hn =>
    have hw := while_ahead innerB (c :: r) b t i1
    have hwl := while_le innerB (c :: r)
    have hd1 : (r ++ b :: t).head?.map digitB = some true ↔ r.head?.map digitB = some true := by
      cases r <;> simp [i2]
    have hN : numLen (c :: (r ++ b :: t)) = numLen (c :: r) := by
      unfold numLen
      have e : (c :: (r ++ b :: t)).drop 1 = r ++ b :: t := rfl
      have e2 : (c :: r).drop 1 = r := rfl
      rw [e, e2, while_ahead digitB r b t i2, show c :: (r ++ b :: t) = (c :: r) ++ b :: t from rfl, while_ahead digitB (c :: r) b t i2]
      rfl
    have hS : signLen (c :: (r ++ b :: t)) = signLen (c :: r) := by
      unfold signLen
      cases r with
      | nil => simp [i3]
      | cons d r => rfl
    have hnum : ∀ y, numberS (c :: r) = some y → numberS (c :: (r ++ b :: t)) = some y := by
      intro y h
      have hle := numLen_le (c :: r)
      have htk : (c :: (r ++ b :: t)).take (numLen (c :: r)) = (c :: r).take (numLen (c :: r)) := take_ahead (c :: r) (b :: t) _ hle
      unfold numberS at h ⊢
      rw [hN, htk]
      split at h
      · rename_i v hv
        split at h
        · rename_i h2
          rw [if_pos (And.intro h2.1 ?_)]
          · first | exact h | skip
          · rcases Nat.lt_or_ge (numLen (c :: r)) (c :: r).length with hl | hl
            · rw [show c :: (r ++ b :: t) = (c :: r) ++ b :: t from rfl, List.getElem?_append_left hl]
              exact h2.2
            · rw [show c :: (r ++ b :: t) = (c :: r) ++ b :: t from rfl, List.getElem?_append_right hl, show numLen (c :: r) - (c :: r).length = 0 by omega]
              simp [i1]
        · cases h
      · cases h
    have htx : ∀ y, textS (c :: r) = some y → textS (c :: (r ++ b :: t)) = some y := by
      intro y h
      unfold textS at h ⊢
      rw [show (c :: r).drop 1 = r from rfl] at h
      rw [show (c :: (r ++ b :: t)).drop 1 = r ++ b :: t from rfl]
      cases hq : textFrom [] 1 r with
      | none => rw [hq] at h; cases h
      | some z => rw [hq] at h; rw [textFrom_ahead r [] 1 (b :: t) z hq]; exact h
    rw [List.cons_append] at hw ⊢
    unfold oneS at hn ⊢
    dsimp only at hn ⊢
    rw [hw, hS, take_ahead (c :: r) (b :: t) _ hwl |> fun e => (show (c :: (r ++ b :: t)).take _ = _ from e), take_ahead (c :: r) (b :: t) _ (signLen_le (c :: r)).1 |> fun e => (show (c :: (r ++ b :: t)).take _ = _ from e)]
    by_cases h1 : letterB c = true
    · rw [if_pos h1, if_pos h1]
    · rw [if_neg h1] at hn
      rw [if_neg h1, if_neg h1]
      by_cases h2 : c.toNat = 34
      · rw [if_pos h2] at hn
        rw [if_pos h2, if_pos h2]
        cases hq : textS (c :: r) with
        | none => rw [hq] at hn; exact absurd rfl hn
        | some y => rw [htx y hq]
      · rw [if_neg h2] at hn
        rw [if_neg h2, if_neg h2]
        by_cases h3 : digitB c = true ∨ (c.toNat = 45 ∧ r.head?.map digitB = some true)
        · rw [if_pos h3] at hn
          rw [if_pos h3, if_pos (h3.imp_right fun h => ⟨h.1, hd1.2 h.2⟩)]
          cases hq : numberS (c :: r) with
          | none => rw [hq] at hn; exact absurd rfl hn
          | some y => rw [hnum y hq]
        · rw [if_neg h3, if_neg (fun h => h3 (h.imp_right fun h => ⟨h.1, hd1.1 h.2⟩))]
end Go.Proofs.YtnaehhpikhlppaaGreatDoor.LexS
