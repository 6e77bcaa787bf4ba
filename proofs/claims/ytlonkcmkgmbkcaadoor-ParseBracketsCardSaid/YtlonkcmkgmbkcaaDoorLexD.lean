/- The walk of lex.number: a number is read as the plain lexer reads it. -/
import Derived.Test.YtlonkcmkgmbkcaaDoorLexC
import Derived.Test.YtlonkcmkgmbkcaaDoorQuietC
namespace Go.Proofs.YtlonkcmkgmbkcaaDoor
open Go.RowKit LexS BigFrame
open Go.Sort (grow)
set_option maxHeartbeats 1000000

def numberT (l : Bytes) : Tok × Nat := match numberS l with
  | some (v, n) => (⟨2, [], v, 0⟩, n)
  | none => (noTok, 0)
theorem below_grow_ (w : World) (k : Nat) (os : Array Obj) : Below w.heap.size w (grow (w.drewN k) os) := by
  refine ⟨rfl, rfl, rfl, ?_, fun i hi => ?_⟩
  · show w.heap.size ≤ (w.heap ++ os).size
    rw [Array.size_append]; omega
  · show (w.heap ++ os)[i]? = w.heap[i]?
    rw [Array.getElem?_append_left hi]
theorem atoi_yes (s : ByteArray) (v : Int) (hs : s.size ≤ 140737488351232) (h : Lib.atoiAll s.data.toList = .ok v) (w : World) :
    Calls Tryd.prog 56 #[.string s] w fun e w' => e = .returned (.tuple #[.int .i64 v, .nilIface]) ∧ Below w.heap.size w w' := by
  refine (Tryd.strconv_Atoi_ok s (by omega) v h w).mono ?_
  rintro e w' ⟨rfl, rfl | ⟨t, rfl⟩⟩
  · exact ⟨rfl, Below.refl _ _⟩
  · exact ⟨rfl, Lib.bytesWorld_below _ _ _⟩
theorem atoi_no (s : ByteArray) (hs : s.size ≤ 140737488351232) (h : ∀ v, Lib.atoiAll s.data.toList ≠ .ok v) (w : World) (hg : GW w) :
    Calls Tryd.prog 56 #[.string s] w fun e w' => ∃ (a : Int) (T : TypeId) (p : Value), e = .returned (.tuple #[.int .i64 a, .iface T p]) ∧ Below w.heap.size w w' := by
  match hq : Lib.atoiAll s.data.toList with
  | .ok v => exact absurd hq (h v)
  | .syntax =>
    obtain ⟨ev, hv, hi⟩ := hg.syn
    refine (Tryd.strconv_Atoi_syntax s (by omega) hq ev w hv hi).mono ?_
    rintro e w' ⟨N, rfl, _, _, hb⟩
    exact ⟨_, _, _, rfl, hb⟩
  | .range =>
    obtain ⟨ev, hv, hi⟩ := hg.rng
    refine (Tryd.strconv_Atoi_range s (by omega) hq ev w hv hi).mono ?_
    rintro e w' ⟨N, rfl, _, _, hb⟩
    exact ⟨_, _, _, rfl, hb⟩
theorem itoa_b (n : Int) (h0 : -9223372036854775808 ≤ n) (h1 : n ≤ 9223372036854775807) (w : World) (hg : GW w) :
    Calls Tryd.prog 57 #[.int .i64 n] w fun e w' => e = .returned (.string ⟨(Lib.itoa n).toArray⟩) ∧ Below w.heap.size w w' := by
  refine (Tryd.strconv_Itoa n h0 h1 w hg.tab).mono ?_
  rintro e w' ⟨rfl, k, os, rfl⟩
  exact ⟨rfl, below_grow_ _ _ _⟩

/-- The call's own token lies in memory, untouched; and so do the library's variables. -/
def KT (w W : World) : Prop := Below w.heap.size w W ∧ Blk W w.heap.size 32 (tokA noTok) ∧ GW W
theorem KT.kept {w W W1 : World} (h : KT w W) (hb : Below W.heap.size W W1) : KT w W1 := ⟨chain h.1 hb, h.2.1.kept hb, h.2.2.kept hb⟩
theorem KT.new {w : World} (hg : GW w) : KT w (w.alloc (.cells (tokA noTok) 32)) := ⟨(Below.refl _ _).alloc (Nat.le_refl _) _, Blk.new w _ _, hg.alloc _⟩
theorem KT.drew {w W : World} (h : KT w W) : KT w W.drew := ⟨h.1.drew, h.2.1.drew, h.2.2.kept (Below.refl _ _).drew⟩
theorem KT.cell {w W : World} (h : KT w W) : W.cell? ⟨w.heap.size, 0, none⟩ = some (.int .i64 0) := h.2.1.cell 0
theorem KT.gw {w W : World} (h : KT w W) : GW W := h.2.2
theorem KT.last {w W : World} (h : KT w W) : KT w W := h
theorem toList_data (s : ByteArray) : s.toList = s.data.toList := ByteArray.toList_eq s
/-- The end: a token is stored into the result. -/
theorem KT.fin {w W : World} (h : KT w W) (y : Tok) :
    Blk ((((W.setCell ⟨w.heap.size, 0, none⟩ (.int .i64 (y.kind : Int))).setCell ⟨w.heap.size, 1, none⟩ (.string ⟨y.s.toArray⟩)).setCell ⟨w.heap.size, 2, none⟩ (.int .i64 y.n)).setCell ⟨w.heap.size, 3, none⟩ (.int .i64 (y.at_ : Int))) w.heap.size 32 (tokA y) ∧
    Below w.heap.size w ((((W.setCell ⟨w.heap.size, 0, none⟩ (.int .i64 (y.kind : Int))).setCell ⟨w.heap.size, 1, none⟩ (.string ⟨y.s.toArray⟩)).setCell ⟨w.heap.size, 2, none⟩ (.int .i64 y.n)).setCell ⟨w.heap.size, 3, none⟩ (.int .i64 (y.at_ : Int))) := tok_stores h.2.1 h.1 y

theorem numLen_parts (c : UInt8) (r : Bytes) : ∃ k0 : Nat, k0 ≤ 1 ∧ numLen (c :: r) = k0 + while_ digitB ((c :: r).drop k0) ∧ (c.toNat = 45 → k0 = 1) ∧ (c.toNat ≠ 45 → k0 = 0) := by
  by_cases h : c.toNat = 45
  · exact ⟨1, Nat.le_refl _, by simp [numLen, h], fun _ => rfl, fun h' => absurd h h'⟩
  · exact ⟨0, by omega, by simp [numLen, h], fun h' => absurd h' h, fun _ => rfl⟩
theorem str_ne (x y : List UInt8) : ((x == y) = true) ↔ x = y := beq_iff_eq

set_option maxRecDepth 100000 in
theorem number_any (s : ByteArray) (c : UInt8) (r : List UInt8) (hl : s.data.toList = c :: r) (hs : s.size ≤ 140737488351232) (w : World) (hg : GW w) :
    Calls Tryd.prog 38 #[.string s] w fun e w' => e = .returned (.tuple #[tokV (numberT s.data.toList).1, .int .i64 ((numberT s.data.toList).2 : Int)]) ∧ Below w.heap.size w w' := by
  obtain ⟨h0, hc0, _⟩ := byte_at (i := 0) (by rw [List.drop_zero]; exact hl)
  have hN := numLen_le s.data.toList
  rw [size_list] at hN
  obtain ⟨k0, hk0, hn, hk1, hk2⟩ := numLen_parts c r
  rw [← hl] at hn
  have hp : (0 : Int) < s.size := by omega
  have HN := Lib.hid hn
  clear hn
  go_enter Tryd.func38, Tryd.ntmps38
  go_upto_if 9 with (fail)
  go_cut [4] (fun s4 wx => s4 = .int .i64 (k0 : Int) ∧ wx = w.alloc (.cells (tokA noTok) 32))
  case first =>
    by_cases h45 : c.toNat = 45
    · have g : ((c.toNat : Int) == 45) = true := by rw [h45]; rfl
      have HK := Lib.hid (hk1 h45)
      clear hk1 hk2 h45
      go_wp2_with fail
      go_meet
      exact ⟨by rw [HK.out]; rfl, rfl⟩
    · have g : ((c.toNat : Int) == 45) = false := by rw [beq_eq_false_iff_ne]; omega
      have HK := Lib.hid (hk2 h45)
      clear hk1 hk2 h45
      go_wp2_with fail
      go_meet
      exact ⟨by rw [HK.out]; rfl, rfl⟩
  case rest =>
    obtain ⟨rfl, rfl⟩ := hcut
    clear hk1 hk2
    have b0 : (0 : Int) ≤ k0 := by omega
    have b1 : (k0 : Int) ≤ s.size := by omega
    have hwl := while_digit (s.extract k0 s.size) (by rw [ByteArray.size_extract]; omega)
    rw [list_from] at hwl
    have hn := HN.out
    obtain ⟨q, hq⟩ : ∃ q, q = while_ digitB (s.data.toList.drop k0) := ⟨_, rfl⟩
    rw [← hq] at hwl hn
    have b2 : (k0 : Int) + q ≤ s.size := by omega
    have b3 : (0 : Int) ≤ (k0 : Int) + q := by omega
    have e1 : IntKind.i64.wrap ((k0 : Int) + (q : Int)) = (k0 : Int) + q := IntWalk.i64_in _ (by omega)
    have t1 : ((k0 : Int) + (q : Int)).toNat = k0 + q := by omega
    have HN2 := Lib.hid hn
    have hg1 := hg.alloc (.cells (tokA noTok) 32)
    clear hq hn HN
    go_wp2_with fail
    refine (hwl _).mono ?_
    rintro e w1 ⟨rfl, rfl⟩
    go_wp2_with fail
    have hTl : (s.extract 0 (k0 + q)).data.toList = s.data.toList.take (numLen s.data.toList) := by rw [list_cut, HN2.out, List.drop_zero]
    have hTs : (s.extract 0 (k0 + q)).size ≤ 140737488351232 := by rw [ByteArray.size_extract]; omega
    have hTt : (s.extract 0 (k0 + q)).toList = s.data.toList.take (numLen s.data.toList) := by rw [← hTl, toList_data]
    have hin := inner_any
    match hA : Lib.atoiAll (s.data.toList.take (numLen s.data.toList)) with
    | .ok v =>
      have hat := atoi_yes (s.extract 0 (k0 + q)) v hTs (by rw [hTl]; exact hA)
      obtain ⟨v0, v1⟩ := Lib.atoiAll_bounds hA
      have hit := itoa_b v v0 v1
      by_cases hI : Lib.itoa v = s.data.toList.take (numLen s.data.toList)
      · have g1 : (Lib.itoa v == (s.extract 0 (k0 + q)).toList) = true := by rw [hTt, hI]; exact beq_self_eq_true _
        match hd : s.data.toList.drop (numLen s.data.toList) with
        | [] =>
          have he := at_end hd
          rw [HN2.out] at he
          have g2 : decide ((k0 : Int) + (q : Int) < (s.size : Int)) = false := decide_eq_false (by omega)
          have g3 : (s.size : Int) ≤ (k0 : Int) + (q : Int) := by omega
          have hend : numberT s.data.toList = (⟨2, [], v, 0⟩, k0 + q) := by
            have hno : s.data.toList[numLen s.data.toList]? = none := by rw [List.getElem?_eq_none]; rw [size_list, HN2.out]; exact he
            unfold numberT numberS
            rw [hA]
            dsimp only
            rw [if_pos ⟨hI, by rw [hno]; simp⟩, HN2.out]
          have HD := Lib.hid hend
          clear hend hTl hTt hI hA hl hc0 he hd
          refine (hat _).mono ?_
          rintro e w2 ⟨rfl, h2⟩
          have hk2 := (KT.new hg).kept h2
          obtain ⟨r0, r1, r2, r3⟩ := blk_tok hk2.2.1
          obtain ⟨f0, f1, f2, f3⟩ := free_tok hk2.2.1
          have hk3 := hk2.drew
          clear h2 hk2
          go_wp2_with fail
          have hqc : ∀ p : Prop, (∀ W, KT w W → p) ↔ p := forall_class hk3
          refine wp_region_quietC (KT w) (by kernel_rfl) (by kernel_rfl) hk3 ?_
          repeat (first | go_big_quiet_skip | (go_big_quiet_want; go_big_quiet_op; first | go_big_quiet_on | (apply Exists.intro; refine ⟨fun W hW => ?_, ?_⟩; (· (first | exact rfl | (first | (go_at_call 57; exact (hit W hW.gw).mono (fun e w' h => ⟨h.1, hW.kept h.2⟩)) | (go_at_call 35; exact (hin W).mono (fun e w' h => ⟨h.1, h.2 ▸ hW⟩))))); go_big_quiet_on)))
          refine wpQuiet_nil ?_
          intro W hW
          clear hqc
          have hk9 := hW
          clear hW
          obtain ⟨r0, r1, r2, r3⟩ := blk_tok hk9.2.1
          obtain ⟨f0, f1, f2, f3⟩ := free_tok hk9.2.1
          have HF := Lib.hid (KT.fin hk9 ⟨2, [], v, 0⟩)
          clear hk9
          go_wp2_with fail
          exact bodyPost_ret (v := .tuple #[tokV ⟨2, [], v, 0⟩, .int .i64 ((k0 : Int) + q)]) (res_tok Tryd.results38 rfl rfl HF.out.1) rfl ⟨by rw [HD.out]; rfl, HF.out.2⟩
        | d :: r' =>
          obtain ⟨hlt, hcd, _⟩ := byte_at hd
          have hsome : s.data.toList[numLen s.data.toList]? = some d := by
            rw [← List.head?_drop, hd]; rfl
          have hlt' : k0 + q < s.size := by rw [← HN2.out]; exact hlt
          have hcd' : s[k0 + q]'hlt' = d := by rw [← hcd]; congr 1; exact HN2.out.symm
          have g2 : decide ((k0 : Int) + (q : Int) < (s.size : Int)) = true := decide_eq_true (by omega)
          have g3 : (k0 : Int) + (q : Int) < (s.size : Int) := by omega
          have hin := inner_any d
          cases hB : innerB d
          · rw [hB] at hin
            have hend : numberT s.data.toList = (⟨2, [], v, 0⟩, k0 + q) := by
              unfold numberT numberS
              rw [hA]
              dsimp only
              rw [if_pos ⟨hI, by rw [hsome]; simp [hB]⟩, HN2.out]
            have HD := Lib.hid hend
            clear hend hTl hTt hI hA hl hc0 hd hsome hcd hlt
            refine (hat _).mono ?_
            rintro e w2 ⟨rfl, h2⟩
            have hk2 := (KT.new hg).kept h2
            obtain ⟨r0, r1, r2, r3⟩ := blk_tok hk2.2.1
            obtain ⟨f0, f1, f2, f3⟩ := free_tok hk2.2.1
            have hk3 := hk2.drew
            clear h2 hk2
            go_wp2_with fail
            have hqc : ∀ p : Prop, (∀ W, KT w W → p) ↔ p := forall_class hk3
            refine wp_region_quietC (KT w) (by kernel_rfl) (by kernel_rfl) hk3 ?_
            repeat (first | go_big_quiet_skip | (go_big_quiet_want; go_big_quiet_op; first | go_big_quiet_on | (apply Exists.intro; refine ⟨fun W hW => ?_, ?_⟩; (· (first | exact rfl | (first | (go_at_call 57; exact (hit W hW.gw).mono (fun e w' h => ⟨h.1, hW.kept h.2⟩)) | (go_at_call 35; exact (hin W).mono (fun e w' h => ⟨h.1, h.2 ▸ hW⟩))))); go_big_quiet_on)))
            refine wpQuiet_nil ?_
            intro W hW
            clear hqc
            have hk9 := hW
            clear hW
            obtain ⟨r0, r1, r2, r3⟩ := blk_tok hk9.2.1
            obtain ⟨f0, f1, f2, f3⟩ := free_tok hk9.2.1
            have HF := Lib.hid (KT.fin hk9 ⟨2, [], v, 0⟩)
            clear hk9
            go_wp2_with fail
            exact bodyPost_ret (v := .tuple #[tokV ⟨2, [], v, 0⟩, .int .i64 ((k0 : Int) + q)]) (res_tok Tryd.results38 rfl rfl HF.out.1) rfl ⟨by rw [HD.out]; rfl, HF.out.2⟩
          · rw [hB] at hin
            have hend : numberT s.data.toList = (noTok, 0) := by
              unfold numberT numberS
              rw [hA]
              dsimp only
              rw [if_neg (fun h => h.2 (by rw [hsome]; simp [hB]))]
            have HD := Lib.hid hend
            clear hend hTl hTt hI hA hl hc0 hd hsome hcd hlt
            refine (hat _).mono ?_
            rintro e w2 ⟨rfl, h2⟩
            have hk2 := (KT.new hg).kept h2
            obtain ⟨r0, r1, r2, r3⟩ := blk_tok hk2.2.1
            obtain ⟨f0, f1, f2, f3⟩ := free_tok hk2.2.1
            have hk3 := hk2.drew
            clear h2 hk2
            go_wp2_with fail
            have hqc : ∀ p : Prop, (∀ W, KT w W → p) ↔ p := forall_class hk3
            refine wp_region_quietC (KT w) (by kernel_rfl) (by kernel_rfl) hk3 ?_
            repeat (first | go_big_quiet_skip | (go_big_quiet_want; go_big_quiet_op; first | go_big_quiet_on | (apply Exists.intro; refine ⟨fun W hW => ?_, ?_⟩; (· (first | exact rfl | (first | (go_at_call 57; exact (hit W hW.gw).mono (fun e w' h => ⟨h.1, hW.kept h.2⟩)) | (go_at_call 35; exact (hin W).mono (fun e w' h => ⟨h.1, h.2 ▸ hW⟩))))); go_big_quiet_on)))
            refine wpQuiet_nil ?_
            intro W hW
            clear hqc
            have hk9 := hW
            clear hW
            obtain ⟨r0, r1, r2, r3⟩ := blk_tok hk9.2.1
            obtain ⟨f0, f1, f2, f3⟩ := free_tok hk9.2.1
            have HF := Lib.hid (KT.fin hk9 noTok)
            clear hk9
            go_wp2_with fail
            exact bodyPost_ret (v := .tuple #[tokV noTok, .int .i64 0]) (res_tok Tryd.results38 rfl rfl HF.out.1) rfl ⟨by rw [HD.out]; rfl, HF.out.2⟩
      · have g1 : (Lib.itoa v == (s.extract 0 (k0 + q)).toList) = false := by rw [hTt]; exact beq_eq_false_iff_ne.2 hI
        have g1b : ¬ (Lib.itoa v = (s.extract 0 (k0 + q)).toList) := by rw [hTt]; exact hI
        have g1c : (!(Lib.itoa v == (s.extract 0 (k0 + q)).toList)) = true := by rw [g1]; rfl
        have hend : numberT s.data.toList = (noTok, 0) := by
          unfold numberT numberS
          rw [hA]
          dsimp only
          rw [if_neg (fun h => hI h.1)]
        have HD := Lib.hid hend
        clear hend hTl hTt hI hA hl hc0
        refine (hat _).mono ?_
        rintro e w2 ⟨rfl, h2⟩
        have hk2 := (KT.new hg).kept h2
        obtain ⟨r0, r1, r2, r3⟩ := blk_tok hk2.2.1
        obtain ⟨f0, f1, f2, f3⟩ := free_tok hk2.2.1
        have hk3 := hk2.drew
        clear h2 hk2
        go_wp2_with fail
        have hqc : ∀ p : Prop, (∀ W, KT w W → p) ↔ p := forall_class hk3
        refine wp_region_quietC (KT w) (by kernel_rfl) (by kernel_rfl) hk3 ?_
        repeat (first | go_big_quiet_skip | (go_big_quiet_want; go_big_quiet_op; first | go_big_quiet_on | (apply Exists.intro; refine ⟨fun W hW => ?_, ?_⟩; (· (first | exact rfl | (first | (go_at_call 57; exact (hit W hW.gw).mono (fun e w' h => ⟨h.1, hW.kept h.2⟩)) | (go_at_call 35; exact (hin W).mono (fun e w' h => ⟨h.1, h.2 ▸ hW⟩))))); go_big_quiet_on)))
        refine wpQuiet_nil ?_
        intro W hW
        clear hqc
        have hk9 := hW
        clear hW
        obtain ⟨r0, r1, r2, r3⟩ := blk_tok hk9.2.1
        obtain ⟨f0, f1, f2, f3⟩ := free_tok hk9.2.1
        have HF := Lib.hid (KT.fin hk9 noTok)
        clear hk9
        go_wp2_with fail
        exact bodyPost_ret (v := .tuple #[tokV noTok, .int .i64 0]) (res_tok Tryd.results38 rfl rfl HF.out.1) rfl ⟨by rw [HD.out]; rfl, HF.out.2⟩
    | .syntax =>
      have hat := atoi_no (s.extract 0 (k0 + q)) hTs (by rw [hTl, hA]; intro v h; cases h)
      have hend : numberT s.data.toList = (noTok, 0) := by
        unfold numberT numberS
        rw [hA]
      have HD := Lib.hid hend
      clear hend hTl hTt hA hl hc0
      refine (hat _ hg1).mono ?_
      rintro e w2 ⟨a, T, p, rfl, h2⟩
      have hk2 := (KT.new hg).kept h2
      obtain ⟨r0, r1, r2, r3⟩ := blk_tok hk2.2.1
      obtain ⟨f0, f1, f2, f3⟩ := free_tok hk2.2.1
      have hk3 := hk2.drew
      clear h2 hk2
      go_wp2_with fail
      have hqc : ∀ p : Prop, (∀ W, KT w W → p) ↔ p := forall_class hk3
      refine wp_region_quietC (KT w) (by kernel_rfl) (by kernel_rfl) hk3 ?_
      repeat (first | go_big_quiet_skip | (go_big_quiet_want; go_big_quiet_op; first | go_big_quiet_on | (apply Exists.intro; refine ⟨fun W hW => ?_, ?_⟩; (· (first | exact rfl | (first | (go_at_call 57; exact (hit W hW.gw).mono (fun e w' h => ⟨h.1, hW.kept h.2⟩)) | (go_at_call 35; exact (hin W).mono (fun e w' h => ⟨h.1, h.2 ▸ hW⟩))))); go_big_quiet_on)))
      refine wpQuiet_nil ?_
      intro W hW
      clear hqc
      have hk9 := hW
      clear hW
      obtain ⟨r0, r1, r2, r3⟩ := blk_tok hk9.2.1
      obtain ⟨f0, f1, f2, f3⟩ := free_tok hk9.2.1
      have HF := Lib.hid (KT.fin hk9 noTok)
      clear hk9
      go_wp2_with fail
      exact bodyPost_ret (v := .tuple #[tokV noTok, .int .i64 0]) (res_tok Tryd.results38 rfl rfl HF.out.1) rfl ⟨by rw [HD.out]; rfl, HF.out.2⟩
    | .range =>
      have hat := atoi_no (s.extract 0 (k0 + q)) hTs (by rw [hTl, hA]; intro v h; cases h)
      have hend : numberT s.data.toList = (noTok, 0) := by
        unfold numberT numberS
        rw [hA]
      have HD := Lib.hid hend
      clear hend hTl hTt hA hl hc0
      refine (hat _ hg1).mono ?_
      rintro e w2 ⟨a, T, p, rfl, h2⟩
      have hk2 := (KT.new hg).kept h2
      obtain ⟨r0, r1, r2, r3⟩ := blk_tok hk2.2.1
      obtain ⟨f0, f1, f2, f3⟩ := free_tok hk2.2.1
      have hk3 := hk2.drew
      clear h2 hk2
      go_wp2_with fail
      have hqc : ∀ p : Prop, (∀ W, KT w W → p) ↔ p := forall_class hk3
      refine wp_region_quietC (KT w) (by kernel_rfl) (by kernel_rfl) hk3 ?_
      repeat (first | go_big_quiet_skip | (go_big_quiet_want; go_big_quiet_op; first | go_big_quiet_on | (apply Exists.intro; refine ⟨fun W hW => ?_, ?_⟩; (· (first | exact rfl | (first | (go_at_call 57; exact (hit W hW.gw).mono (fun e w' h => ⟨h.1, hW.kept h.2⟩)) | (go_at_call 35; exact (hin W).mono (fun e w' h => ⟨h.1, h.2 ▸ hW⟩))))); go_big_quiet_on)))
      refine wpQuiet_nil ?_
      intro W hW
      clear hqc
      have hk9 := hW
      clear hW
      obtain ⟨r0, r1, r2, r3⟩ := blk_tok hk9.2.1
      obtain ⟨f0, f1, f2, f3⟩ := free_tok hk9.2.1
      have HF := Lib.hid (KT.fin hk9 noTok)
      clear hk9
      go_wp2_with fail
      exact bodyPost_ret (v := .tuple #[tokV noTok, .int .i64 0]) (res_tok Tryd.results38 rfl rfl HF.out.1) rfl ⟨by rw [HD.out]; rfl, HF.out.2⟩
end Go.Proofs.YtlonkcmkgmbkcaaDoor
