/- The walk of lex.text: it reads a text as the plain lexer does. -/
import Derived.Test.YtlonkcmkgmbkcaaDoorLexA
import Derived.Test.YtlonkcmkgmbkcaaDoorBuilder
import Derived.Test.YtlonkcmkgmbkcaaDoorShelf
namespace Go.Proofs.YtlonkcmkgmbkcaaDoor
open Go.RowKit LexS
set_option maxHeartbeats 2000000

def tokA (t : Tok) : Array Value := #[.int .i64 (t.kind : Int), .string ⟨t.s.toArray⟩, .int .i64 t.n, .int .i64 (t.at_ : Int)]
def tokV (t : Tok) : Value := .agg (tokA t)
theorem tokV_eq (t : Tok) : tokV t = .agg #[.int .i64 (t.kind : Int), .string ⟨t.s.toArray⟩, .int .i64 t.n, .int .i64 (t.at_ : Int)] := rfl
def textT (l : Bytes) : Tok × Nat := match textS l with
  | some (t, n) => (⟨3, t, 0, 0⟩, n)
  | none => (noTok, 0)
def textO (o : Option (Bytes × Nat)) : Tok × Nat := match o with
  | some (t, n) => if t.length ≤ 64 then (⟨3, t, 0, 0⟩, n) else (noTok, 0)
  | none => (noTok, 0)
theorem textT_eq (l : Bytes) : textT l = textO (textFrom [] 1 (l.drop 1)) := by
  unfold textT textS textO
  match textFrom [] 1 (l.drop 1) with
  | none => rfl
  | some (t, n) =>
    by_cases h : t.length ≤ 64
    · simp only [if_pos h]
    · simp only [if_neg h]

theorem blk_tok {w : World} {g : Nat} {t : TypeId} {x : Tok} (h : Blk w g t (tokA x)) :
    w.cell? ⟨g, 0, none⟩ = some (.int .i64 (x.kind : Int)) ∧ w.cell? ⟨g, 1, none⟩ = some (.string ⟨x.s.toArray⟩) ∧ w.cell? ⟨g, 2, none⟩ = some (.int .i64 x.n) ∧ w.cell? ⟨g, 3, none⟩ = some (.int .i64 (x.at_ : Int)) :=
  ⟨h.cell 0, h.cell 1, h.cell 2, h.cell 3⟩
theorem free_tok {w : World} {g : Nat} {t : TypeId} {x : Tok} (h : Blk w g t (tokA x)) :
    w.frozen? ⟨g, 0, none⟩ = false ∧ w.frozen? ⟨g, 1, none⟩ = false ∧ w.frozen? ⟨g, 2, none⟩ = false ∧ w.frozen? ⟨g, 3, none⟩ = false :=
  ⟨h.free 0, h.free 1, h.free 2, h.free 3⟩
theorem put_tok {w : World} {g : Nat} {t : TypeId} {x y : Tok} (h : Blk w g t (tokA x)) :
    Blk ((((w.setCell ⟨g, 0, none⟩ (.int .i64 (y.kind : Int))).setCell ⟨g, 1, none⟩ (.string ⟨y.s.toArray⟩)).setCell ⟨g, 2, none⟩ (.int .i64 y.n)).setCell ⟨g, 3, none⟩ (.int .i64 (y.at_ : Int))) g t (tokA y) :=
  (((h.put 0 _).put 1 _).put 2 _).put 3 _
theorem res_tok {f : Func} {r q g : Nat} {tmps : Array Value} {w : World} {x : Tok} {n : Int} (hf : f.results = #[.cell r 32, .tmp q]) (ht : tmps[r]?.getD undef = .pointer (some ⟨g, 0, none⟩)) (hq : tmps[q]?.getD undef = .int .i64 n)
    (h : Blk w g 32 (tokA x)) : (results f tmps).run Tryd.prog w = .ok (.tuple #[tokV x, .int .i64 n]) w := by
  obtain ⟨h0, h1, h2, h3⟩ := blk_tok h
  simp [results, hf, go_sem, ht, hq, h0, h1, h2, h3, tokV, tokA]

theorem bcells_len (l : Bytes) : (Lib.byteCells l).length = l.length := by simp [Lib.byteCells]
theorem bcells_app (l : Bytes) (c : UInt8) : Lib.byteCells l ++ [.int .u8 (c.toNat : Int)] = Lib.byteCells (l ++ [c]) := by simp [Lib.byteCells]
theorem len_b {g b : Nat} {acc : Bytes} {w : World} (h : Lib.IsBuilder 80 5 g b (Lib.byteCells acc) w) :
    Calls Tryd.prog 53 #[.pointer (some ⟨b, 0, none⟩)] w fun e w' => e = .returned (.int .i64 (acc.length : Int)) ∧ w = w' := by
  refine (Tryd.Builder_Len g b _ w h).mono ?_
  rintro e w' ⟨rfl, rfl⟩
  exact ⟨by rw [bcells_len], rfl⟩
theorem write_b {g b : Nat} {acc : Bytes} {w : World} (c : UInt8) (h : Lib.IsBuilder 80 5 g b (Lib.byteCells acc) w) (hl : acc.length ≤ 140737488351232) (hg : g ≤ w.heap.size) :
    Calls Tryd.prog 55 #[.pointer (some ⟨b, 0, none⟩), .int .u8 (c.toNat : Int)] w fun e w' => e = .returned .nilIface ∧ Lib.IsBuilder 80 5 g b (Lib.byteCells (acc ++ [c])) w' ∧ Below g w w' := by
  refine (writeByte_any g b _ (c.toNat : Int) w h (by rw [bcells_len]; omega) hg).mono ?_
  rintro e w' ⟨rfl, h1, h2⟩
  exact ⟨rfl, .inr (by rw [bcells_app] at h1; exact h1), h2⟩

theorem own_nil_ (w : World) (b : Nat) : w.ownsRow b 5 1 (.slice none 0 0) (Lib.byteCells ([] : Bytes)).length (Lib.byteCells ([] : Bytes)) := ⟨rfl, .inl ⟨rfl, rfl⟩⟩
/-- What holds at the head of each round. -/
def TextRel (s : ByteArray) (w : World) (i : Nat) (acc : Bytes) (wr : World) : Prop :=
  1 ≤ i ∧ i ≤ s.size ∧ acc.length ≤ i ∧ textFrom [] 1 (s.data.toList.drop 1) = textFrom acc i (s.data.toList.drop i) ∧
  Lib.IsBuilder 80 5 (w.heap.size + 1) (w.heap.size + 1) (Lib.byteCells acc) wr ∧ Blk wr w.heap.size 32 (tokA noTok) ∧ Below w.heap.size w wr ∧ w.heap.size + 1 ≤ wr.heap.size

theorem textO_none : textO none = (noTok, 0) := rfl
theorem textFrom_cons (acc : Bytes) (i : Nat) (c : UInt8) (r : Bytes) : textFrom acc i (c :: r) =
    if c.toNat = 34 then some (acc, i + 1)
    else if c.toNat = 92 then
      match r with
      | [] => none
      | d :: r' => if d.toNat = 34 ∨ d.toNat = 92 then textFrom (acc ++ [d]) (i + 2) r' else none
    else textFrom (acc ++ [c]) (i + 1) r := by
  cases r <;> simp only [textFrom]
/-- The end without a text. -/
theorem text_fail {s : ByteArray} {w wr : World} {i : Nat} {acc : Bytes} (h : TextRel s w i acc wr) :
    Blk ((((wr.setCell ⟨w.heap.size, 0, none⟩ (.int .i64 0)).setCell ⟨w.heap.size, 1, none⟩ (.string ⟨#[]⟩)).setCell ⟨w.heap.size, 2, none⟩ (.int .i64 0)).setCell ⟨w.heap.size, 3, none⟩ (.int .i64 0)) w.heap.size 32 (tokA noTok) ∧
    Below w.heap.size w ((((wr.setCell ⟨w.heap.size, 0, none⟩ (.int .i64 0)).setCell ⟨w.heap.size, 1, none⟩ (.string ⟨#[]⟩)).setCell ⟨w.heap.size, 2, none⟩ (.int .i64 0)).setCell ⟨w.heap.size, 3, none⟩ (.int .i64 0)) :=
  ⟨put_tok (x := noTok) (y := noTok) h.2.2.2.2.2.1, (((h.2.2.2.2.2.2.1.setCell (Nat.le_refl _) _).setCell (Nat.le_refl _) _).setCell (Nat.le_refl _) _).setCell (Nat.le_refl _) _⟩

set_option maxRecDepth 100000 in
theorem text_any (s : ByteArray) (hs : s.size ≤ 140737488351232) (h1 : 1 ≤ s.size) (w : World) :
    Calls Tryd.prog 36 #[.string s] w fun e w' => e = .returned (.tuple #[tokV (textT s.data.toList).1, .int .i64 ((textT s.data.toList).2 : Int)]) ∧ Below w.heap.size w w' := by
  rw [textT_eq]
  go_enter Tryd.func36, Tryd.ntmps36
  go_wp2
  go_loopw [5] (fun c wr => ∃ i acc, c = .int .i64 (i : Nat) ∧ TextRel s w i acc wr) (fun c _ => s.size - (intOf c).toNat)
  case atStart =>
    refine ⟨1, [], rfl, Nat.le_refl _, h1, by simp, rfl, ?_, (Blk.new w 32 (tokA noTok)).alloc _, ((Below.refl _ _).alloc (Nat.le_refl _) _).alloc (by simp) _, by simp⟩
    refine .inl ⟨Nat.le_refl _, .slice none 0 0, ?_, own_nil_ _ _, by simp [Value.ownBlock]⟩
    have h := Blk.new (w.alloc (.cells (tokA noTok) 32)) 80 #[.pointer none, .slice none 0 0]
    rw [World.size_alloc] at h
    exact h
  case round =>
    obtain ⟨i, acc, rfl, hrel'⟩ := hrel
    have HF := Lib.hid (text_fail hrel')
    obtain ⟨hi1, his, hacc, heq, hbu, hr, hb, hsz⟩ := hrel'
    have HE := Lib.hid heq
    clear heq
    match hd : s.data.toList.drop i with
    | [] =>
      have he := at_end hd
      have hend : textO (textFrom [] 1 (s.data.toList.drop 1)) = (noTok, 0) := by rw [HE.out, hd]; simp [textFrom, textO]
      have HD := Lib.hid hend
      clear hd hend
      obtain ⟨r0, r1, r2, r3⟩ := blk_tok hr
      obtain ⟨f0, f1, f2, f3⟩ := free_tok hr
      go_wp2
      exact bodyPost_ret (v := .tuple #[tokV noTok, .int .i64 0]) (res_tok Tryd.results36 rfl rfl HF.out.1) rfl ⟨by rw [HD.out]; rfl, HF.out.2⟩
    | c :: r =>
      obtain ⟨hlt, hc, hr2⟩ := byte_at hd
      have hcons := textFrom_cons acc i c r
      rw [← hd, ← HE.out] at hcons
      by_cases h34 : c.toNat = 34
      · rw [if_pos h34] at hcons
        have g34 : ((c.toNat : Int) == 34) = true := by rw [h34]; rfl
        have hlen := len_b hbu
        by_cases h64 : acc.length ≤ 64
        · have hstr := Tryd.Builder_String_any _ _ acc _ hbu hsz
          have hend : textO (textFrom [] 1 (s.data.toList.drop 1)) = (⟨3, acc, 0, 0⟩, i + 1) := by rw [hcons]; simp [textO, h64]
          have HD := Lib.hid hend
          clear hcons hend hd h34 hr2
          have h64' : (acc.length : Int) ≤ 64 := by omega
          go_wp2_with fail
          refine hlen.mono ?_
          rintro e w1 ⟨rfl, rfl⟩
          go_wp2_with fail
          refine hstr.mono ?_
          rintro e w1 ⟨rfl, hb1⟩
          have hr1 := hr.below hb1 (by omega)
          have hb2 : Below w.heap.size w w1 := hb.trans (hb1.mono (by omega))
          obtain ⟨r0, r1, r2, r3⟩ := blk_tok hr1
          obtain ⟨f0, f1, f2, f3⟩ := free_tok hr1
          clear hbu hr hb hb1 hlen hstr
          go_wp2_with fail
          refine bodyPost_ret (v := .tuple #[tokV ⟨3, acc, 0, 0⟩, .int .i64 ((i : Int) + 1)]) (res_tok Tryd.results36 rfl rfl (put_tok (y := ⟨3, acc, 0, 0⟩) hr1)) rfl ⟨by rw [HD.out]; rfl, ?_⟩
          exact (((hb2.setCell (Nat.le_refl _) _).setCell (Nat.le_refl _) _).setCell (Nat.le_refl _) _).setCell (Nat.le_refl _) _
        · have hend : textO (textFrom [] 1 (s.data.toList.drop 1)) = (noTok, 0) := by rw [hcons]; simp [textO]; omega
          have HD := Lib.hid hend
          clear hcons hend hd h34 hr2
          have h64' : (64 : Int) < acc.length := by omega
          obtain ⟨r0, r1, r2, r3⟩ := blk_tok hr
          obtain ⟨f0, f1, f2, f3⟩ := free_tok hr
          go_wp2_with fail
          refine hlen.mono ?_
          rintro e w1 ⟨rfl, rfl⟩
          go_wp2_with fail
          exact bodyPost_ret (v := .tuple #[tokV noTok, .int .i64 0]) (res_tok Tryd.results36 rfl rfl HF.out.1) rfl ⟨by rw [HD.out]; rfl, HF.out.2⟩
      · rw [if_neg h34] at hcons
        have g34 : ((c.toNat : Int) == 34) = false := by rw [beq_eq_false_iff_ne]; omega
        by_cases h92 : c.toNat = 92
        · rw [if_pos h92] at hcons
          have g92 : ((c.toNat : Int) != 92) = false := by rw [h92]; rfl
          match hr2' : r, hr2, hcons with
          | [], hr2, hcons =>
            have he := at_end hr2
            have hend : textO (textFrom [] 1 (s.data.toList.drop 1)) = (noTok, 0) := by rw [hcons]; rfl
            have HD := Lib.hid hend
            clear hcons hend hd h34 hr2 h92
            obtain ⟨r0, r1, r2, r3⟩ := blk_tok hr
            obtain ⟨f0, f1, f2, f3⟩ := free_tok hr
            have d1 : decide ((i : Int) + 1 < (s.size : Int)) = false := decide_eq_false (by omega)
            go_wp2_with fail
            exact bodyPost_ret (v := .tuple #[tokV noTok, .int .i64 0]) (res_tok Tryd.results36 rfl rfl HF.out.1) rfl ⟨by rw [HD.out]; rfl, HF.out.2⟩
          | d :: r', hr2, hcons =>
            dsimp only at hcons
            obtain ⟨hlt2, hc2, hr3⟩ := byte_at hr2
            have b0 : (0 : Int) ≤ (i : Int) + 1 := by omega
            have b1 : (i : Int) + 1 < s.size := by omega
            have t1 : ((i : Int) + 1).toNat = i + 1 := by omega
            have d1 : decide ((i : Int) + 1 < (s.size : Int)) = true := decide_eq_true (by omega)
            by_cases hd34 : d.toNat = 34
            · have hw := write_b d hbu (by omega) hsz
              have q34 : ((d.toNat : Int) == 34) = true := by rw [hd34]; rfl
              have hd2 : d.toNat = 34 ∨ d.toNat = 92 := by omega
              rw [if_pos hd2] at hcons
              have HD := Lib.hid hcons
              have HR := Lib.hid hr3
              clear hcons hd h34 h92 hr2 hr3 hd2 hd34
              go_wp2_with fail
              refine hw.mono ?_
              rintro e w1 ⟨rfl, hbu1, hb1⟩
              have hr1 := hr.below hb1 (by omega)
              have hb2 : Below w.heap.size w w1 := hb.trans (hb1.mono (by omega))
              clear hbu hr hb hw
              go_wp2_with fail
              exact ⟨⟨i + 2, acc ++ [d], by go_num, by omega, by omega, by simp; omega, by rw [HD.out, HR.out], hbu1, hr1, hb2, by have := hb1.size; omega⟩, by simp [intOf]; omega⟩
            · have q34 : ((d.toNat : Int) == 34) = false := by rw [beq_eq_false_iff_ne]; omega
              by_cases hd92 : d.toNat = 92
              · have hw := write_b d hbu (by omega) hsz
                have q92 : ((d.toNat : Int) == 92) = true := by rw [hd92]; rfl
                have hd2 : d.toNat = 34 ∨ d.toNat = 92 := by omega
                rw [if_pos hd2] at hcons
                have HD := Lib.hid hcons
                have HR := Lib.hid hr3
                clear hcons hd h34 h92 hr2 hr3 hd2 hd34 hd92
                go_wp2_with fail
                refine hw.mono ?_
                rintro e w1 ⟨rfl, hbu1, hb1⟩
                have hr1 := hr.below hb1 (by omega)
                have hb2 : Below w.heap.size w w1 := hb.trans (hb1.mono (by omega))
                clear hbu hr hb hw
                go_wp2_with fail
                exact ⟨⟨i + 2, acc ++ [d], by go_num, by omega, by omega, by simp; omega, by rw [HD.out, HR.out], hbu1, hr1, hb2, by have := hb1.size; omega⟩, by simp [intOf]; omega⟩
              · have q92 : ((d.toNat : Int) == 92) = false := by rw [beq_eq_false_iff_ne]; omega
                have hend : textO (textFrom [] 1 (s.data.toList.drop 1)) = (noTok, 0) := by rw [hcons, if_neg (by omega)]; rfl
                have HD := Lib.hid hend
                clear hcons hend hd h34 hr2 hr3 h92 hd34 hd92
                obtain ⟨r0, r1, r2, r3⟩ := blk_tok hr
                obtain ⟨f0, f1, f2, f3⟩ := free_tok hr
                go_wp2_with fail
                exact bodyPost_ret (v := .tuple #[tokV noTok, .int .i64 0]) (res_tok Tryd.results36 rfl rfl HF.out.1) rfl ⟨by rw [HD.out]; rfl, HF.out.2⟩
        · rw [if_neg h92] at hcons
          have g92 : ((c.toNat : Int) != 92) = true := by rw [bne_iff_ne]; omega
          have hw := write_b c hbu (by omega) hsz
          have HD := Lib.hid hcons
          have HR := Lib.hid hr2
          clear hcons hd h34 h92 hr2
          go_wp2_with fail
          refine hw.mono ?_
          rintro e w1 ⟨rfl, hbu1, hb1⟩
          have hr1 := hr.below hb1 (by omega)
          have hb2 : Below w.heap.size w w1 := hb.trans (hb1.mono (by omega))
          clear hbu hr hb hw
          go_wp2_with fail
          exact ⟨⟨i + 1, acc ++ [c], rfl, by omega, by omega, by simp; omega, by rw [HD.out, HR.out], hbu1, hr1, hb2, by have := hb1.size; omega⟩, by simp [intOf]; omega⟩
end Go.Proofs.YtlonkcmkgmbkcaaDoor
