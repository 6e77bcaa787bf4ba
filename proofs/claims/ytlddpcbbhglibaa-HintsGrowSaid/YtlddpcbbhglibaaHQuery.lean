/- A Query that comes in: its nodes. -/
import Derived.Test.YtlddpcbbhglibaaHGrow
import Derived.Test.YtlddpcbbhglibaaHOpen
import Derived.OpenShut
namespace Go.Proofs.Ytlddpcbbhglibaa
open Go.ChangeShapes Go.WideShapes Go.ChangeAt Go.RowKit

theorem fd60 : (Try.prog.fieldsOf 60).toList.map (fun f => (f.type, f.offset)) = [(3, 0), (9, 1), (3, 2), (3, 3), (3, 4), (56, 5), (57, 16), (34, 17), (58, 18)] := by kernel_rfl
theorem fd56 : (Try.prog.fieldsOf 56).toList.map (fun f => (f.type, f.offset)) = [(3, 0), (3, 1), (9, 2), (54, 3)] := by kernel_rfl
theorem fd51 : (Try.prog.fieldsOf 51).toList.map (fun f => (f.type, f.offset)) = [(49, 0)] := by kernel_rfl
theorem uu60 : Try.prog.underlying 60 = some (.struct (Try.prog.fieldsOf 60)) := by kernel_rfl
theorem uu56 : Try.prog.underlying 56 = some (.struct (Try.prog.fieldsOf 56)) := by kernel_rfl
theorem uu51 : Try.prog.underlying 51 = some (.struct (Try.prog.fieldsOf 51)) := by kernel_rfl
theorem uu54 : Try.prog.underlying 54 = some (.array 8 3) := by kernel_rfl
theorem uu57 : Try.prog.underlying 57 = some (.slice 3) := by kernel_rfl
theorem uu58 : Try.prog.underlying 58 = some (.slice 99) := by kernel_rfl
theorem uu49 : Try.prog.underlying 49 = some (.slice 60) := by kernel_rfl
theorem cc : Try.prog.cellsOf 60 = 19 ∧ Try.prog.cellsOf 56 = 11 ∧ Try.prog.cellsOf 51 = 1 ∧ Try.prog.cellsOf 54 = 8 ∧ Try.prog.cellsOf 57 = 1 ∧ Try.prog.cellsOf 58 = 1 ∧ Try.prog.cellsOf 49 = 1 ∧ Try.prog.cellsOf 34 = 1 := ⟨by kernel_rfl, by kernel_rfl, by kernel_rfl, by kernel_rfl, by kernel_rfl, by kernel_rfl, by kernel_rfl, by kernel_rfl⟩

theorem bytes60 : Try.prog.bytesOf 60 = 216 := by kernel_rfl
section
variable {H : Type} {enc : TypeId × Value → H} {w : World} {base : Nat} {spare : Nat → Bool} {held : Bool}
theorem field_at {t : TypeId} {fs : Array Field} {l : List (TypeId × Nat)} (hl : fs.toList.map (fun f => (f.type, f.offset)) = l) {i : Nat} {o : Nat} (hi : l[i]? = some (t, o)) : ∃ f, fs[i]? = some f ∧ f.type = t ∧ f.offset = o := by
  rw [← hl, List.getElem?_map] at hi
  cases hf : fs[i]? with
  | none => simp [hf] at hi
  | some f =>
    simp [hf] at hi
    exact ⟨f, rfl, hi.1, hi.2⟩
/-- A struct's field, read. -/
theorem part_at {t0 : TypeId} {fs : Array Field} {l : List (TypeId × Nat)} (hl : fs.toList.map (fun f => (f.type, f.offset)) = l) {cs : List Value} {xs : List (DataW H × List MemPlace)} {n : Nat} (hlen : xs.length = fs.size)
    (hx : ∀ (i : Nat) (f : Field), fs[i]? = some f → DataW.trod enc Try.prog w base spare held n f.type ((cs.drop f.offset).take (Try.prog.cellsOf f.type)) = xs[i]?) {i o k : Nat} (hi : l[i]? = some (t0, o)) (hk : Try.prog.cellsOf t0 = k) :
    ∃ y, DataW.trod enc Try.prog w base spare held n t0 ((cs.drop o).take k) = some y ∧ xs[i]? = some y := by
  obtain ⟨f, hf, rfl, rfl⟩ := field_at hl hi
  have h := hx i f hf
  have hlt : i < xs.length := by
    rw [hlen]
    rcases Nat.lt_or_ge i fs.size with h' | h'
    · exact h'
    · rw [Array.getElem?_eq_none h'] at hf
      cases hf
  rw [List.getElem?_eq_getElem hlt, hk] at h
  exact ⟨_, h, List.getElem?_eq_getElem hlt⟩
/-- What weighs little as a whole weighs little in each field. -/
theorem part_weight {t t0 : TypeId} {fs : Array Field} (hu : Try.prog.underlying t = some (.struct fs)) {l : List (TypeId × Nat)} (hl : fs.toList.map (fun f => (f.type, f.offset)) = l) {xs : List (DataW H × List MemPlace)} {i o : Nat} (hi : l[i]? = some (t0, o)) {y : DataW H × List MemPlace} (hy : xs[i]? = some y)
    (hz : ∀ m ∈ (.agg (xs.map (·.1)) : DataW H).weights Try.prog t, m ≤ reachBytes) : ∀ m ∈ y.1.weights Try.prog t0, m ≤ reachBytes := by
  intro m hm
  obtain ⟨f, hf, rfl, _⟩ := field_at hl hi
  refine hz m ?_
  simp only [DataW.weights, hu]
  exact DataW.weights_mem_each (j := i) (t := f.type) (d := y.1) (by rw [List.getElem?_map]; simp [hf]) (by rw [List.getElem?_map, hy]; rfl) m hm
theorem i64_wf {n : Int} (h : (Lit.int .i64 n).wf = true) : -9223372036854775808 ≤ n ∧ n ≤ 9223372036854775807 := by
  simp [Lit.wf, IntKind.min, IntKind.max, IntKind.bits, IntKind.signed] at h
  omega
theorem spot_none {a : Addr} {v : Value} (h : w.cell? a = some v) : a.spot = none := by
  unfold World.cell? at h
  split at h
  · split at h
    · cases h
    · rename_i hs
      cases hsp : a.spot with
      | none => rfl
      | some k => rw [hsp] at hs; simp at hs
  · cases h
theorem cells_at {a : Addr} {n : Nat} {cs : List Value} (h : w.cells? base a n = some cs) : cs.length = n ∧ ∀ j v, cs[j]? = some v → w.cell? (a.add j) = some v := by
  unfold World.cells? at h
  split at h
  · have hl : cs.length = n := by simpa using mapM_some_length h
    refine ⟨hl, fun j v hj => ?_⟩
    have hlt : j < n := by
      rw [← hl]
      exact (List.getElem?_eq_some_iff.1 hj).1
    have := mapM_some_get h j j (by simp [hlt])
    rw [this, hj]
  · cases h
/-- A row of places. -/
theorem row_of {fuel : Nat} {c : Value} {y : DataW H × List MemPlace} (h : DataW.trod enc Try.prog w base spare held fuel 57 [c] = some y) : ∃ a len cap two, c = .slice a len cap ∧ RowIs w a len cap two := by
  rcases DataW.trod_slice uu57 h with ⟨hc, _⟩ | ⟨a, len, cap, elems, rest, n, _, hc, _, _, hl, _, he, hel, _, _⟩
  · simp only [List.cons.injEq, and_true] at hc
    exact ⟨none, 0, 0, none, hc, by show (0 : Nat) ≠ 2; decide⟩
  · simp only [List.cons.injEq, and_true] at hc
    by_cases h2 : len = 2
    · subst h2
      have each : ∀ i, i < 2 → ∃ p : Int, w.cell? (a.add i) = some (.int .i64 p) ∧ -9223372036854775808 ≤ p ∧ p ≤ 9223372036854775807 := by
        intro i hi
        have h1 := hel i hi
        rw [cells3, Nat.mul_one, List.getElem?_eq_getElem (by omega : i < elems.length), Option.bind_eq_some_iff] at h1
        obtain ⟨cs, hcs, ht⟩ := h1
        obtain ⟨p, rfl, _, hw⟩ := DataW.trod_int und3 ht
        exact ⟨p, (cells_at hcs).2 0 _ rfl, i64_wf hw⟩
      obtain ⟨p, hp, wp⟩ := each 0 (by decide)
      obtain ⟨q, hq, wq⟩ := each 1 (by decide)
      have hs := spot_none (a := a) hp
      obtain ⟨g, o, sp⟩ := a
      dsimp only at hs
      subst hs
      exact ⟨_, _, _, some (p, q), hc, g, o, rfl, rfl, hl, hp, hq, wp, wq⟩
    · exact ⟨_, _, _, none, hc, h2⟩
theorem slice_of {t e : TypeId} (hu : Try.prog.underlying t = some (.slice e)) {fuel : Nat} {c : Value} {y : DataW H × List MemPlace} (h : DataW.trod enc Try.prog w base spare held fuel t [c] = some y) : ∃ a len cap, c = .slice a len cap := by
  rcases DataW.trod_slice hu h with ⟨hc, _⟩ | ⟨a, len, cap, elems, rest, n, _, hc, _⟩
  · simp only [List.cons.injEq, and_true] at hc
    exact ⟨none, 0, 0, hc⟩
  · simp only [List.cons.injEq, and_true] at hc
    exact ⟨some a, len, cap, hc⟩
theorem int_of {fuel : Nat} {c : Value} {y : DataW H × List MemPlace} (h : DataW.trod enc Try.prog w base spare held fuel 3 [c] = some y) : ∃ n : Int, c = .int .i64 n := by
  obtain ⟨n, hc, _, _⟩ := DataW.trod_int und3 h
  simp only [List.cons.injEq, and_true] at hc
  exact ⟨n, hc⟩
theorem str_of {fuel : Nat} {c : Value} {y : DataW H × List MemPlace} (h : DataW.trod enc Try.prog w base spare held fuel 9 [c] = some y) : ∃ s : ByteArray, c = .string s ∧ y.1 = .lit (.string s.data.toList) := by
  obtain ⟨s, hc, hy, _⟩ := DataW.trod_string und9' h
  simp only [List.cons.injEq, and_true] at hc
  exact ⟨s, hc, by rw [hy]⟩
theorem list19 {cs : List Value} (h : cs.length = 19) : ∃ c0 c1 c2 c3 c4 c5 c6 c7 c8 c9 c10 c11 c12 c13 c14 c15 c16 c17 c18, cs = [c0, c1, c2, c3, c4, c5, c6, c7, c8, c9, c10, c11, c12, c13, c14, c15, c16, c17, c18] := by
  match cs, h with
  | [c0, c1, c2, c3, c4, c5, c6, c7, c8, c9, c10, c11, c12, c13, c14, c15, c16, c17, c18], _ => exact ⟨_, _, _, _, _, _, _, _, _, _, _, _, _, _, _, _, _, _, _, rfl⟩
theorem node_of {fuel : Nat} {cs : List Value} {x : DataW H × List MemPlace} (h : DataW.trod enc Try.prog w base spare held fuel 60 cs = some x) (hz : ∀ m ∈ x.1.weights Try.prog 60, m ≤ reachBytes) :
    ∃ d : NodeV, cs = d.cells.toList ∧ RowIs w d.la d.ll d.lc d.two ∧ d.vs.size ≤ 140737488351232 := by
  obtain ⟨xs, n, _, hx, hlen, hxl, hp⟩ := DataW.trod_struct uu60 h
  rw [cc.1] at hlen
  obtain ⟨c0, c1, c2, c3, c4, c5, c6, c7, c8, c9, c10, c11, c12, c13, c14, c15, c16, c17, c18, rfl⟩ := list19 hlen
  subst hx
  obtain ⟨y0, h0, _⟩ := part_at fd60 hxl hp (i := 0) rfl cells3
  obtain ⟨y1, h1, _⟩ := part_at fd60 hxl hp (i := 1) rfl cells9
  obtain ⟨y2, h2, _⟩ := part_at fd60 hxl hp (i := 2) rfl cells3
  obtain ⟨y3, h3, _⟩ := part_at fd60 hxl hp (i := 3) rfl cells3
  obtain ⟨y4, h4, _⟩ := part_at fd60 hxl hp (i := 4) rfl cells3
  obtain ⟨y5, h5, g5⟩ := part_at fd60 hxl hp (i := 5) rfl cc.2.1
  obtain ⟨y6, h6, _⟩ := part_at fd60 hxl hp (i := 6) rfl cc.2.2.2.2.1
  obtain ⟨y7, h7, _⟩ := part_at fd60 hxl hp (i := 7) rfl cc.2.2.2.2.2.2.2
  obtain ⟨y8, h8, _⟩ := part_at fd60 hxl hp (i := 8) rfl cc.2.2.2.2.2.1
  have z5 := part_weight uu60 fd60 (i := 5) rfl g5 hz
  obtain ⟨n0, rfl⟩ := int_of h0
  obtain ⟨s1, rfl, _⟩ := str_of h1
  obtain ⟨n2, rfl⟩ := int_of h2
  obtain ⟨n3, rfl⟩ := int_of h3
  obtain ⟨n4, rfl⟩ := int_of h4
  obtain ⟨la, ll, lc, two, rfl, hrow⟩ := row_of h6
  obtain ⟨na, nl, nc, rfl⟩ := slice_of und34 h7
  obtain ⟨aa, al, ac, rfl⟩ := slice_of uu58 h8
  obtain ⟨vs, m, _, hv, hvlen, hvl, hq⟩ := DataW.trod_struct uu56 h5
  subst hv
  obtain ⟨k0, j0, _⟩ := part_at fd56 hvl hq (i := 0) rfl cells3
  obtain ⟨k1, j1, _⟩ := part_at fd56 hvl hq (i := 1) rfl cells3
  obtain ⟨k2, j2, e2⟩ := part_at fd56 hvl hq (i := 2) rfl cells9
  obtain ⟨k3, j3, _⟩ := part_at fd56 hvl hq (i := 3) rfl cc.2.2.2.1
  have z2 := part_weight uu56 fd56 (i := 2) rfl e2 z5
  obtain ⟨m0, rfl⟩ := int_of j0
  obtain ⟨m1, rfl⟩ := int_of j1
  obtain ⟨s2, rfl, hs2⟩ := str_of j2
  obtain ⟨es, q, _, _, _, hel, hh⟩ := DataW.trod_array uu54 j3
  rw [cells3] at hh
  have each : ∀ i, i < 8 → ∃ y, DataW.trod enc Try.prog w base spare held q 3 (([c8, c9, c10, c11, c12, c13, c14, c15].drop (i * 1)).take 1) = some y := fun i hi => by
    have := hh i hi
    rw [List.getElem?_eq_getElem (by omega : i < es.length)] at this
    exact ⟨_, this⟩
  obtain ⟨_, t0⟩ := each 0 (by decide)
  obtain ⟨_, t1⟩ := each 1 (by decide)
  obtain ⟨_, t2⟩ := each 2 (by decide)
  obtain ⟨_, t3⟩ := each 3 (by decide)
  obtain ⟨_, t4⟩ := each 4 (by decide)
  obtain ⟨_, t5⟩ := each 5 (by decide)
  obtain ⟨_, t6⟩ := each 6 (by decide)
  obtain ⟨_, t7⟩ := each 7 (by decide)
  obtain ⟨p0, rfl⟩ := int_of t0
  obtain ⟨p1, rfl⟩ := int_of t1
  obtain ⟨p2, rfl⟩ := int_of t2
  obtain ⟨p3, rfl⟩ := int_of t3
  obtain ⟨p4, rfl⟩ := int_of t4
  obtain ⟨p5, rfl⟩ := int_of t5
  obtain ⟨p6, rfl⟩ := int_of t6
  obtain ⟨p7, rfl⟩ := int_of t7
  refine ⟨⟨n0, s1, n2, n3, n4, m0, m1, s2, fun i => if i.val = 0 then p0 else if i.val = 1 then p1 else if i.val = 2 then p2 else if i.val = 3 then p3 else if i.val = 4 then p4 else if i.val = 5 then p5 else if i.val = 6 then p6 else p7, la, ll, lc, na, nl, nc, aa, al, ac, two⟩, rfl, hrow, ?_⟩
  have hw := z2 s2.data.toList.length (by rw [hs2]; simp [DataW.weights])
  have : reachBytes = 140737488351232 := by decide
  rw [Array.length_toList] at hw
  show s2.data.size ≤ _
  omega
theorem choose_list {α : Type} {p : Nat → α → Prop} : ∀ (n : Nat), (∀ i, i < n → ∃ d, p i d) → ∃ l : List α, l.length = n ∧ ∀ i d, l[i]? = some d → p i d
  | 0, _ => ⟨[], rfl, fun i d h => by cases h⟩
  | n + 1, h => by
    obtain ⟨l, hl, hp⟩ := choose_list n fun i hi => h i (Nat.lt_succ_of_lt hi)
    obtain ⟨d, hd⟩ := h n (Nat.lt_succ_self n)
    refine ⟨l ++ [d], by simp [hl], fun i e hi => ?_⟩
    rw [List.getElem?_append] at hi
    split at hi
    · exact hp i e hi
    · rename_i hge
      rw [hl] at hi hge
      have : i - n = 0 := by
        rcases Nat.eq_zero_or_pos (i - n) with h0 | h0
        · exact h0
        · rw [List.getElem?_eq_none (by simp; omega)] at hi
          cases hi
      rw [this] at hi
      injection hi with hi
      subst hi
      have : i = n := by omega
      subst this
      exact hd
theorem open_query {r : Reach} {b0 : Nat} {v : Value} {d : DataW H} {p : List MemPlace} (hv : Value.okWide Try.prog w r b0 51 v) (h : DataW.Trod enc Try.prog w base spare held 51 v d p) (hz : ∀ m ∈ d.weights Try.prog 51, m ≤ reachBytes) :
    ∃ (ad : Option Addr) (l : List NodeV) (cap : Nat), v = .agg #[.slice ad l.length cap] ∧ l.length ≤ cap ∧ cap ≤ 9223372036854775807 ∧ l.length ≤ 140737488351232 ∧ (l = [] ∨ ∃ g o, ad = some ⟨g, o, none⟩ ∧ Nodes w g o l) := by
  obtain ⟨⟨cs⟩, rfl, hsz⟩ := okWide_struct uu51 hv
  rw [cc.2.2.1] at hsz
  match cs, hsz with
  | [c], _ =>
    obtain ⟨fuel, hf⟩ := h
    obtain ⟨xs, n, _, hx, _, hxl, hp⟩ := DataW.trod_struct uu51 (by simpa [Value.cells] using hf)
    have hd : d = .agg (xs.map (·.1)) := congrArg Prod.fst hx
    subst hd
    obtain ⟨y, hy, gy⟩ := part_at fd51 hxl hp (i := 0) rfl cc.2.2.2.2.2.2.1
    have zy := part_weight uu51 fd51 (i := 0) rfl gy hz
    rcases DataW.trod_slice uu49 hy with ⟨hc, _⟩ | ⟨a, len, cap, elems, rest, k, _, hc, hyy, _, hl, hm, he, hel, _, _⟩
    · have hc : c = .slice none 0 0 := by simpa using hc
      subst hc
      exact ⟨none, [], 0, rfl, Nat.le_refl 0, by decide, by decide, .inl rfl⟩
    · have hc : c = .slice (some a) len cap := by simpa using hc
      subst hc
      have each : ∀ i, i < len → ∃ e : NodeV, (∀ (j : Nat) u, e.cells[j]? = some u → w.cell? ((a.add (i * 19)).add j) = some u) ∧ RowIs w e.la e.ll e.lc e.two ∧ e.vs.size ≤ 140737488351232 := by
        intro i hi
        have h1 := hel i hi
        rw [cc.1, List.getElem?_eq_getElem (by omega : i < elems.length), Option.bind_eq_some_iff] at h1
        obtain ⟨cs, hcs, ht⟩ := h1
        obtain ⟨e, rfl, hr, hs⟩ := node_of ht (fun m hm => by
          refine zy m ?_
          rw [hyy]
          simp only [DataW.weights, uu49, List.mem_cons, List.mem_append]
          exact .inr (.inl (weights_all (List.mem_map.2 ⟨_, List.getElem_mem _, rfl⟩) m hm)))
        exact ⟨e, fun j u hj => (cells_at hcs).2 j u (by simpa using hj), hr, hs⟩
      obtain ⟨l, hll, hn⟩ := choose_list len each
      subst hll
      have hlw : l.length ≤ 140737488351232 := by
        have h1 := zy ((elems.length + rest.length) * Try.prog.bytesOf 60) (by rw [hyy]; simp [DataW.weights])
        have : reachBytes = 140737488351232 := by decide
        rw [this, bytes60] at h1
        omega
      refine ⟨some a, l, cap, rfl, hl, hm, hlw, ?_⟩
      rcases l with _ | ⟨e, l'⟩
      · exact .inl rfl
      · right
        have h0 := (hn 0 e rfl).1 0 _ rfl
        rw [Nat.zero_mul] at h0
        have hs := spot_none (a := a) h0
        obtain ⟨g, o, sp⟩ := a
        dsimp only at hs
        subst hs
        refine ⟨g, o, rfl, fun i d hi => ⟨fun j u hj => ?_, (hn i d hi).2⟩⟩
        have := (hn i d hi).1 j u hj
        rw [Addr.add_mid, Addr.add_mid] at this
        exact this
end
end Go.Proofs.Ytlddpcbbhglibaa
