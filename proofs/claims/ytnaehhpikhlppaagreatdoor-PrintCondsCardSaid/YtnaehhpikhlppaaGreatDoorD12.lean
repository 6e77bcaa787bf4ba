/- Several texts of the proof, joined. -/
import Derived.Test.YtnaehhpikhlppaaGreatDoorD9
import Derived.OwnWalk
import Derived.Laws.AppendOwn
import Derived.ArgAppend
import Derived.Test.YtnaehhpikhlppaaGreatDoorD11
import Derived.Deep.Quiet
import Derived.Laws.StructEq
set_option maxHeartbeats 4000000
set_option linter.unusedVariables false
set_option linter.unusedSimpArgs false
namespace Go.Proofs.YtnaehhpikhlppaaGreatDoor
open Go.RowKit LexS

def toksL (l : List Tok) : List Value := l.flatMap fun t => (tokA t).toList
theorem toksL_app (l : List Tok) (t : Tok) : toksL l ++ (tokA t).toList = toksL (l ++ [t]) := by simp [toksL]
theorem toksL_len (l : List Tok) : (toksL l).length = l.length * 4 := by
  induction l with
  | nil => rfl
  | cons a l ih =>
    have : toksL (a :: l) = (tokA a).toList ++ toksL l := by simp [toksL]
    rw [this, List.length_append, ih, List.length_cons]
    simp [tokA]
    omega
theorem own_kept {W W1 : World} {base : Nat} {e : TypeId} {size : Nat} {v : Value} {n : Nat} {xs : List Value} (h : W.ownsRow base e size v n xs) (hb : Below W.heap.size W W1) : W1.ownsRow base e size v n xs := by
  refine ⟨h.1, ?_⟩
  rcases h.2 with h2 | ⟨g, cap, cur, h2, h3, h4, h5⟩
  · exact .inl h2
  · exact .inr ⟨g, cap, cur, h2, h3, (hb.block g (Array.getElem?_eq_some_iff.1 h4).1).trans h4, h5⟩
theorem tok_info : (Tryz.prog.info? 65).map (fun i => (i.zero, i.size, i.bytes)) = some (some (.agg #[.int .i64 0, .string ⟨#[]⟩, .int .i64 0, .int .i64 0]), 4, 40) := by kernel_rfl
def LexRes (x : List Tok × Nat × Nat) (w : World) (e : Ending) (w' : World) : Prop :=
  ∃ v, e = .returned (.tuple #[v, .int .i64 (x.2.1 : Int), .int .i64 (x.2.2 : Int)]) ∧ w'.ownsRow w.heap.size 65 4 v x.1.length (toksL x.1) ∧ Below w.heap.size w w'
def LexRel (s : ByteArray) (w : World) (a : Nat) (acc : List Tok) (v : Value) (wr : World) : Prop :=
  a ≤ s.size ∧ acc.length ≤ a ∧ (∃ k, (s.data.toList.drop a).length < k ∧ lexS s.data.toList = lexGo k a (s.data.toList.drop a) acc) ∧
  wr.ownsRow w.heap.size 65 4 v acc.length (toksL acc) ∧ Below w.heap.size w wr
section
variable {s : ByteArray} {w wr : World} {a : Nat} {acc : List Tok} {v : Value} {c : UInt8} {r : Bytes}
theorem LexRel.start (hs : s.size ≤ 2048) : LexRel s w 0 [] (.slice none 0 0) w := by
  refine ⟨Nat.zero_le _, Nat.le_refl _, ⟨s.data.toList.length + 1, by simp, ?_⟩, ⟨rfl, .inl ⟨rfl, rfl⟩⟩, Below.refl _ _⟩
  unfold lexS
  rw [if_neg (by rw [size_list]; omega)]
  rfl
theorem LexRel.done (h : LexRel s w a acc v wr) (hd : s.data.toList.drop a = []) : lexS s.data.toList = (acc, 0, 0) := by
  obtain ⟨_, _, ⟨k, hk, he⟩, _⟩ := h
  rw [he, hd]
  cases k <;> rfl
theorem LexRel.res (h : LexRel s w a acc v wr) (hd : s.data.toList.drop a = []) : LexRes (lexS s.data.toList) w (.returned (.tuple #[v, .int .i64 0, .int .i64 0])) wr := by
  rw [h.done hd]
  exact ⟨v, rfl, h.2.2.2.1, h.2.2.2.2⟩
theorem nil_res {x : Nat} {e : Nat} (hb : Below w.heap.size w wr) : LexRes ([], x, e) w (.returned (.tuple #[.slice none 0 0, .int .i64 (x : Int), .int .i64 (e : Int)])) wr := ⟨_, rfl, ⟨rfl, .inl ⟨rfl, rfl⟩⟩, hb⟩
theorem LexRel.blank (h : LexRel s w a acc v wr) (hd : s.data.toList.drop a = c :: r) (hb : blankB c = true) : LexRel s w (a + 1) acc v wr := by
  obtain ⟨h1, h2, ⟨k, hk, he⟩, h4, h5⟩ := h
  obtain ⟨hlt, _, hr⟩ := byte_at hd
  refine ⟨hlt, by omega, ?_, h4, h5⟩
  rw [hd] at hk he
  rw [hr]
  match k, hk, he with
  | k + 1, hk, he =>
    refine ⟨k, by simp only [List.length_cons] at hk; omega, ?_⟩
    rw [he]
    simp [lexGo, hb]
theorem LexRel.bad (h : LexRel s w a acc v wr) (hd : s.data.toList.drop a = c :: r) (hb : blankB c = false) (hn : (oneS (c :: r)).2 = 0) : lexS s.data.toList = ([], a, 110) := by
  obtain ⟨h1, h2, ⟨k, hk, he⟩, h4, h5⟩ := h
  rw [hd] at hk he
  match k, hk, he with
  | k + 1, hk, he =>
    rw [he]
    simp [lexGo, hb, hn]
theorem LexRel.tok {v' : Value} {wr' : World} (h : LexRel s w a acc v wr) (hd : s.data.toList.drop a = c :: r) (hb : blankB c = false) {y : Tok} {n : Nat} (hy : (y, n) = oneS (c :: r)) (hn : n ≠ 0)
    (ho : wr'.ownsRow w.heap.size 65 4 v' (acc.length + 1) (toksL acc ++ (tokA { y with at_ := a }).toList)) (hw : Below w.heap.size w wr') :
    LexRel s w (a + n) (acc ++ [{ y with at_ := a }]) v' wr' := by
  obtain ⟨h1, h2, ⟨k, hk, he⟩, h4, h5⟩ := h
  have hle := oneS_le (c :: r)
  rw [← hy, ← hd, List.length_drop, size_list] at hle
  dsimp only at hle
  refine ⟨by omega, by simp; omega, ?_, by rw [toksL_app] at ho; simpa using ho, hw⟩
  rw [hd] at hk he
  match k, hk, he with
  | k + 1, hk, he =>
    refine ⟨k, ?_, ?_⟩
    · rw [← List.drop_drop, hd]
      simp only [List.length_cons, List.length_drop] at hk ⊢
      omega
    · rw [he, ← List.drop_drop, hd]
      have h0 : (oneS (c :: r)).2 = n := by rw [← hy]
      have h1 : (oneS (c :: r)).1 = y := by rw [← hy]
      simp [lexGo, hb, h0, h1, hn]
end
theorem blk_cells {W : World} {g : Nat} {t : TypeId} {cs : Array Value} (h : Blk W g t cs) : ∀ j u, cs.toList[j]? = some u → W.cell? ((⟨g, 0, none⟩ : Addr).add j) = some u := by
  intro j u hu
  rw [Addr.add_lit, Nat.zero_add, h.cell]
  simpa using hu
theorem new_second (W : World) (x y : Tok) : ∀ j u, (tokA y).toList[j]? = some u → ((W.alloc (.cells (tokA x) 65)).alloc (.cells (tokA y) 65)).cell? ((⟨W.heap.size + 1, 0, none⟩ : Addr).add j) = some u := by
  have h := Blk.new (W.alloc (.cells (tokA x) 65)) 65 (tokA y)
  rw [World.size_alloc] at h
  exact blk_cells h
theorem two_base {w W : World} (h : Below w.heap.size w W) (x y : Tok) : Below w.heap.size w ((W.alloc (.cells (tokA x) 65)).alloc (.cells (tokA y) 65)) :=
  (h.alloc h.size _).alloc (by rw [World.size_alloc]; have := h.size; omega) _
theorem res_three {P : Program} {f : Func} {p q r : Nat} {tmps : Array Value} {w : World} {x y z : Value} (hf : f.results = #[.tmp p, .tmp q, .tmp r]) (h1 : tmps[p]?.getD undef = x) (h2 : tmps[q]?.getD undef = y) (h3 : tmps[r]?.getD undef = z) :
    (results f tmps).run P w = .ok (.tuple #[x, y, z]) w := by
  simp [results, hf, go_sem, h1, h2, h3]
set_option maxRecDepth 100000 in
theorem lex_any (s : ByteArray) (hs : s.size ≤ 140737488351232) (w : World) (hg : GW w) :
    Calls Tryz.prog 50 #[.string s] w (LexRes (lexS s.data.toList) w) := by
  go_enter Tryz.func50, Tryz.ntmps50
  by_cases h2048 : s.size ≤ 2048
  · have b0 : (s.size : Int) ≤ 2048 := by omega
    have hrel0 := LexRel.start (w := w) h2048
    have H0 := Lib.hid hrel0
    clear hrel0 h2048
    go_wp2_with fail
    go_loopw [2, 3] (fun v c wr => ∃ (a : Nat) (acc : List Tok), c = .int .i64 (a : Int) ∧ LexRel s w a acc v wr) (fun _ c _ => s.size - (intOf c).toNat)
    case atStart => exact ⟨0, [], rfl, H0.out⟩
    case round =>
      obtain ⟨a, acc, rfl, hrel⟩ := hrel
      have h1 := hrel.1
      match hd : s.data.toList.drop a with
      | [] =>
        have he := at_end hd
        have HO := Lib.hid (hrel.res hd)
        clear hrel hd H0
        go_wp2_with fail
        exact bodyPost_ret (res_three rfl rfl rfl rfl) rfl HO.out
      | c :: r =>
        obtain ⟨hlt, hc, hr⟩ := byte_at hd
        have hone := Tryz.strings_Contains_one ⟨#[32, 9, 10, 13]⟩ c
        have hsh := contains_blank c
        change decide (0 ≤ Lib.indexByte (⟨#[32, 9, 10, 13]⟩ : ByteArray).data.toList c) = _ at hsh
        rw [hsh] at hone
        have e1 : s.extract a (a + 1) = ⟨#[c]⟩ := by
          rw [cut_text, List.drop_take, hd]
          have : a + 1 - a = 1 := by omega
          rw [this]
          rfl
        have q0 : (0 : Int) ≤ (a : Int) + 1 := by omega
        have q2 : (a : Int) ≤ (a : Int) + 1 := by omega
        have q3 : (0 : Int) ≤ (a : Int) := by omega
        have q1 : (a : Int) + 1 ≤ (s.size : Int) := by omega
        have t1 : ((a : Int) + 1).toNat = a + 1 := by omega
        have w1 : IntKind.i64.wrap ((a : Int) + 1) = (a : Int) + 1 := IntWalk.i64_in _ (by omega)
        clear hsh hr hc
        cases hB : blankB c
        · rw [hB] at hone
          have hg1 : GW wr := hg.kept hrel.2.2.2.2
          have hl := list_from s a
          rw [hd] at hl
          have h1any := one_any (s.extract a s.size) c r hl (by rw [ByteArray.size_extract]; omega)
          rw [hl] at h1any
          obtain ⟨⟨y, n⟩, hy⟩ : ∃ q, q = oneS (c :: r) := ⟨_, rfl⟩
          rw [← hy] at h1any
          dsimp only at h1any
          rw [tokV_eq y] at h1any
          by_cases hn : n = 0
          · have hend := hrel.bad hd hB (by rw [← hy]; exact hn)
            have HE := Lib.hid hend
            have HB := Lib.hid hrel.2.2.2.2
            subst hn
            clear hrel hd hend H0 hl hy hB hg
            go_wp2_with fail
            refine (hone _).mono ?_
            rintro e w2 ⟨rfl, rfl⟩
            go_wp2_with fail
            refine (h1any _ hg1).mono ?_
            rintro e w3 ⟨rfl, hb3⟩
            have HB2 := Lib.hid (chain HB.out hb3)
            clear hb3 h1any hone
            go_wp2_with fail
            exact bodyPost_ret (res_three rfl rfl rfl rfl) rfl (by rw [HE.out]; exact nil_res (HB2.out.alloc HB2.out.size _))
          · have hn0 : ((n : Int) == 0) = false := by rw [beq_eq_false_iff_ne]; omega
            have HR := Lib.hid hrel
            have HY := Lib.hid hy
            have hsz2 : acc.length ≤ 2048 := by have := hrel.2.1; omega
            have hle := oneS_le (c :: r)
            rw [← hy, ← hd, List.length_drop, size_list] at hle
            dsimp only at hle
            have HD := Lib.hid hd
            have HBk := Lib.hid hB
            clear hrel hd H0 hl hy hB hg
            go_wp2_with fail
            refine (hone _).mono ?_
            rintro e w2 ⟨rfl, rfl⟩
            go_wp2_with fail
            refine (h1any _ hg1).mono ?_
            rintro e w3 ⟨rfl, hb3⟩
            have HO3 := Lib.hid (own_kept HR.out.2.2.2.1 hb3)
            have HB3 := Lib.hid (chain HR.out.2.2.2.2 hb3)
            clear hb3 h1any hone
            obtain ⟨i, hi, hz0, hz1, hz2⟩ := info_parts tok_info
            have HN1 := Lib.hid (new_second w3 { y with at_ := a } { y with at_ := a })
            have HN2 := Lib.hid ((HO3.out.alloc (.cells (tokA { y with at_ := a }) 65)).alloc (.cells (tokA { y with at_ := a }) 65))
            have HN3 := Lib.hid (two_base HB3.out { y with at_ := a } { y with at_ := a })
            go_wp2_with (at_builtin; refine wpList_append_own _ rfl _ _ _ rfl w.heap.size 65 i _ 4 40 (by kernel_rfl) hi hz0 hz1 hz2 rfl (by decide) _ acc.length (toksL acc) rfl HN2.out ⟨w3.heap.size + 1, 0, none⟩ 1 1 (tokA { y with at_ := a }).toList rfl rfl HN1.out (by simp [tokA, Value.oneCell']) (by simp only [maxLen]; omega) (by omega) HN3.out.size ?_)
            intro v' w' ho hgr _
            have HF := Lib.hid (HR.out.tok HD.out HBk.out HY.out hn ho (HN3.out.grown hgr HN3.out.size (fun k hk => (HN2.out.lt k hk).1)))
            have w2 : IntKind.i64.wrap ((a : Int) + (n : Int)) = (a : Int) + n := IntWalk.i64_in _ (by omega)
            clear ho hgr
            go_wp2_with fail
            exact ⟨⟨a + n, acc ++ [{ y with at_ := a }], by simp, HF.out⟩, by simp [intOf]; omega⟩
        · rw [hB] at hone
          have hnx := hrel.blank hd hB
          have HN := Lib.hid hnx
          clear hnx hrel hd H0 hB
          go_wp2_with fail
          refine (hone _).mono ?_
          rintro e w2 ⟨rfl, rfl⟩
          go_wp2_with fail
          exact ⟨⟨a + 1, acc, rfl, HN.out⟩, by simp [intOf]; omega⟩
  · have b0 : (2048 : Int) < (s.size : Int) := by omega
    have hend : lexS s.data.toList = ([], 0, 2) := by
      unfold lexS
      rw [if_pos (by rw [size_list]; omega)]
    rw [hend]
    go_wp2_with fail
    exact bodyPost_ret (res_three rfl rfl rfl rfl) rfl (nil_res (Below.refl _ _))
end Go.Proofs.YtnaehhpikhlppaaGreatDoor

namespace Go.Proofs.YtnaehhpikhlppaaGreatDoor
open Go.RowKit LexS

theorem toksL_cons (a : Tok) (l : List Tok) : toksL (a :: l) = (tokA a).toList ++ toksL l := by simp [toksL]
theorem toksL_get : ∀ (l : List Tok) (i : Nat) (t : Tok) (j : Nat), l[i]? = some t → j < 4 → (toksL l)[i * 4 + j]? = (tokA t).toList[j]?
  | [], i, t, j, h, _ => by simp at h
  | a :: l, 0, t, j, h, hj => by
    simp only [List.getElem?_cons_zero, Option.some.injEq] at h
    subst h
    rw [toksL_cons, Nat.zero_mul, Nat.zero_add, List.getElem?_append_left (by simp [tokA]; omega)]
  | a :: l, i + 1, t, j, h, hj => by
    have ha : (tokA a).toList.length = 4 := rfl
    rw [toksL_cons, List.getElem?_append_right (by rw [ha]; omega), ha]
    have : (i + 1) * 4 + j - 4 = i * 4 + j := by omega
    rw [this]
    exact toksL_get l i t j (by simpa using h) hj
theorem row_form {W : World} {base : Nat} {v : Value} {l : List Tok} (h : W.ownsRow base 65 4 v l.length (toksL l)) (hn : l ≠ []) :
    ∃ g cap, v = .slice (some ⟨g, 0, none⟩) l.length cap ∧ l.length ≤ cap ∧ base ≤ g ∧ g < W.heap.size ∧
      ∀ i t, l[i]? = some t → W.cell? ⟨g, i * 4, none⟩ = some (.int .i64 (t.kind : Int)) ∧ W.cell? ⟨g, i * 4 + 1, none⟩ = some (.string ⟨t.s.toArray⟩) ∧ W.cell? ⟨g, i * 4 + 2, none⟩ = some (.int .i64 t.n) ∧ W.cell? ⟨g, i * 4 + 3, none⟩ = some (.int .i64 (t.at_ : Int)) := by
  have hf := fun g hg => h.cells (g := g) hg
  have hlt := h.lt
  rcases h.2 with ⟨_, h2⟩ | ⟨g, cap, cur, h2, h3, h4, h5, _⟩
  · exact absurd (List.eq_nil_of_length_eq_zero h2) hn
  · subst h2
    refine ⟨g, cap, rfl, h5, h3, (hlt g rfl).2, fun i t hi => ?_⟩
    have hk : ∀ j u, j < 4 → (tokA t).toList[j]? = some u → W.cell? ⟨g, i * 4 + j, none⟩ = some u := by
      intro j u hj hu
      have := hf g rfl (i * 4 + j) u (by rw [toksL_get l i t j hi hj]; exact hu)
      rwa [Addr.add_lit, Nat.zero_add] at this
    exact ⟨hk 0 _ (by omega) rfl, hk 1 _ (by omega) rfl, hk 2 _ (by omega) rfl, hk 3 _ (by omega) rfl⟩
theorem lex_lit (l : Bytes) (x : List Tok × Nat × Nat) (hx : lexS l = x) (hl : l.length ≤ 2048) (w : World) (hg : GW w) : Calls Tryz.prog 50 #[.string ⟨l.toArray⟩] w (LexRes x w) := by
  have h := lex_any ⟨l.toArray⟩ (by simp [ByteArray.size]; omega) w hg
  have e : (⟨l.toArray⟩ : ByteArray).data.toList = l := by simp
  rw [e, hx] at h
  exact h
end Go.Proofs.YtnaehhpikhlppaaGreatDoor

namespace Go.Proofs.YtnaehhpikhlppaaGreatDoor
open Go.RowKit LexS BigFrame

def Drawn (w W : World) : Prop := ∃ k, W = w.drewN k
theorem Drawn.base (w : World) (k : Nat) : Drawn w (w.drewN k) := ⟨k, rfl⟩
theorem drewN_twice (w : World) (a b : Nat) : (w.drewN a).drewN b = w.drewN (a + b) := by
  simp [World.drewN, Nat.add_assoc]
theorem Drawn.more {w W : World} (h : Drawn w W) (n : Nat) : Drawn w (W.drewN n) := by
  obtain ⟨k, rfl⟩ := h
  exact ⟨k + n, drewN_twice w k n⟩
theorem row_max {W : World} {base : Nat} {v : Value} {n : Nat} {xs : List Value} (h : W.ownsRow base 65 4 v n xs) : n ≤ maxLen := by
  rcases h.2 with ⟨_, h2⟩ | ⟨g, cap, cur, h2, h3, h4, h5, h6, _⟩
  · rw [h2]; exact Nat.zero_le _
  · exact Nat.le_trans h5 h6
theorem row_any {W : World} {base : Nat} {v : Value} {l : List Tok} (h : W.ownsRow base 65 4 v l.length (toksL l)) :
    ∃ p cap, v = .slice p l.length cap ∧ l.length ≤ cap ∧ l.length ≤ maxLen ∧ (l ≠ [] → ∃ g, p = some ⟨g, 0, none⟩ ∧ base ≤ g ∧ g < W.heap.size ∧
      ∀ i t, l[i]? = some t → W.cell? ⟨g, i * 4, none⟩ = some (.int .i64 (t.kind : Int)) ∧ W.cell? ⟨g, i * 4 + 1, none⟩ = some (.string ⟨t.s.toArray⟩) ∧ W.cell? ⟨g, i * 4 + 2, none⟩ = some (.int .i64 t.n) ∧ W.cell? ⟨g, i * 4 + 3, none⟩ = some (.int .i64 (t.at_ : Int))) := by
  by_cases hn : l = []
  · subst hn
    rcases h.2 with ⟨h2, _⟩ | ⟨g, cap, cur, h2, h3, h4, h5, _⟩
    · exact ⟨none, 0, h2, Nat.le_refl _, Nat.zero_le _, fun hc => absurd rfl hc⟩
    · exact ⟨_, cap, h2, Nat.zero_le _, Nat.zero_le _, fun hc => absurd rfl hc⟩
  · obtain ⟨g, cap, h1, h2, h3, h4, h5⟩ := row_form h hn
    exact ⟨_, cap, h1, h2, row_max h, fun _ => ⟨g, rfl, h3, h4, h5⟩⟩
end Go.Proofs.YtnaehhpikhlppaaGreatDoor

namespace Go.Proofs.YtnaehhpikhlppaaGreatDoor
open Go.RowKit LexS BigFrame

theorem ParS.lex_word {s : Bytes} (h : ParS.LexT (ParS.wd s)) : lexS s = ([⟨1, s, 0, 0⟩], 0, 0) := by
  have hs := ParS.lexT_small h
  obtain ⟨h1, c, r, h2, hb⟩ := h
  have e : ParS.oneT (ParS.wd s) = s := rfl
  rw [e] at h1 h2 hs
  unfold lexS
  rw [if_neg (by omega), lexGo_tok ⟨c, r, h2, hb⟩ h1 (by rw [h2]; simp), List.drop_length, lexGo_nil]
  rfl
theorem tight_any (k : Nat) (w : World) :
    Calls Tryz.prog 57 #[.int .i64 (k : Int)] w fun e w' => e = .returned (.int .i64 ((if k = 12 then 1 else if k = 11 then 2 else 3 : Nat) : Int)) ∧ w' = w := by
  go_enter Tryz.func57, Tryz.ntmps57
  by_cases h1 : k = 12
  · subst h1
    go_wp2_with fail
    exact bodyPost_ret (results_tmp rfl _ _ _) rfl ⟨rfl, rfl⟩
  · have b1 : ¬ (k : Int) = 12 := by omega
    have b1' : decide ((k : Int) = 12) = false := by simp [b1]
    by_cases h2 : k = 11
    · subst h2
      go_wp2_with fail
      exact bodyPost_ret (results_tmp rfl _ _ _) rfl ⟨rfl, rfl⟩
    · have b2 : ¬ (k : Int) = 11 := by omega
      have b2' : decide ((k : Int) = 11) = false := by simp [b2]
      go_wp2_with fail
      exact bodyPost_ret (results_tmp rfl _ _ _) rfl ⟨rfl, rfl⟩
theorem short_any (s : ByteArray) (w : World) :
    Calls Tryz.prog 25 #[.string s] w fun e w' => e = .returned (if 2048 < s.size then .tuple #[.string ⟨#[]⟩, .int .i64 2] else .tuple #[.string s, .int .i64 0]) ∧ w' = w := by
  go_enter Tryz.func25, Tryz.ntmps25
  by_cases h1 : 2048 < s.size
  · have b1 : (2048 : Int) < (s.size : Int) := by omega
    go_wp2_with fail
    exact bodyPost_ret (v := .tuple #[.string ⟨#[]⟩, .int .i64 2]) (by simp [results, Tryz.results25, go_sem]) rfl ⟨rfl, rfl⟩
  · have b1 : ¬ (2048 : Int) < (s.size : Int) := by omega
    go_wp2_with fail
    exact bodyPost_ret (v := .tuple #[.string s, .int .i64 0]) (by simp [results, Tryz.results25, go_sem]) rfl ⟨rfl, rfl⟩
set_option maxRecDepth 100000 in
theorem plain_word {s : Bytes} (h : ParS.LexT (ParS.wd s)) (w : World) (hg : GW w) :
    Calls Tryz.prog 88 #[.string ⟨s.toArray⟩] w fun e w' => e = .returned (.bool true) ∧ Below w.heap.size w w' := by
  have hs := ParS.lexT_small h
  have e0 : ParS.oneT (ParS.wd s) = s := rfl
  rw [e0] at hs
  have hl := ParS.lex_word h
  go_enter Tryz.func88, Tryz.ntmps88
  go_wp2_with fail
  refine (lex_lit s _ hl (by omega) w hg).mono ?_
  rintro e w1 ⟨v, rfl, hr, hb⟩
  obtain ⟨g, cap, rfl, hc, h1, h2, h3⟩ := row_form hr (by simp)
  obtain ⟨k1, k2, k3, k4⟩ := h3 0 ⟨1, s, 0, 0⟩ rfl
  rw [Nat.zero_mul] at k1 k2 k3 k4
  dsimp only at k1 k2 k3 k4 hc h2 h1
  have hl1 : ([⟨1, s, 0, 0⟩] : List Tok).length = 1 := rfl
  rw [hl1] at hc ⊢
  go_wp2_with fail
  exact bodyPost_ret (results_tmp rfl _ _ _) rfl ⟨rfl, hb⟩
end Go.Proofs.YtnaehhpikhlppaaGreatDoor
