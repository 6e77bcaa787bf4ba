/- Several texts of the proof, joined. -/
import Derived.Test.YtnaehhpikhlppaaGreatDoorE22
import Derived.Test.YtnaehhpikhlppaaGreatDoorE23
set_option maxHeartbeats 4000000
set_option maxRecDepth 100000
set_option linter.unusedVariables false
set_option linter.unusedSimpArgs false
namespace Go.Proofs.YtnaehhpikhlppaaGreatDoor
open Go.RowKit LexS ParS BigFrame
section
variable {w0 W:World} {nv lv:Value} {T:List Tk}
theorem value_text (s:Bytes) (h:LN w0 nv lv T W) (hT:T.length≤5000):Calls Tryz.prog 131 #[RP w0.heap.size,.agg (valA ⟨2,0,s⟩)] W (LNP w0 nv lv (T++[tx s]) W):=by
 obtain ⟨W1,hW1⟩:∃ W1,W1=W.alloc (.cells (valA ⟨2,0,s⟩) 37):=⟨_,rfl⟩
 have hb:Below W.heap.size W W1:=by rw [hW1];exact (Below.refl _ _).alloc (Nat.le_refl _) _
 have hx:Blk W1 W.heap.size 37 (valA ⟨2,0,s⟩):=by rw [hW1];exact Blk.new W _ _
 have H1:=Lib.hid (h.kept hb)
 have HB:=Lib.hid hb
 have c1:W1.cell? ⟨w0.heap.size,1,none⟩=some lv:=H1.out.box.cell 1
 have c0:W1.cell? ⟨W.heap.size,0,none⟩=some (.int .i64 2):=hx.cell 0
 have cb:W1.cell? ⟨W.heap.size,2,none⟩=some (.string (BA s)):=hx.cell 2
 have HNE:=Lib.hid (show lv.ownBlock≠some W.heap.size from fun e=>by have:=(h.row.lt _ e).2;omega)
 have HRW:=Lib.hid (show ∀ (K:World→Prop),K W1→K (W.alloc (.cells (valA ⟨2,0,s⟩) 37)) from fun K h=>by rw [← hW1];exact h)
 obtain ⟨o,c,rfl⟩:=row_slice h.row
 clear h hb hx hW1
 go_enter Tryz.func131,Tryz.ntmps131
 go_upto_region 1 with fail
 refine HRW.out _ ?_
 go_wp2_with fail
 obtain ⟨Wk,hWk⟩:∃ Wk,Wk=(W1.alloc (.cells #[.int .i64 3,.string (BA s),.int .i64 0,.int .i64 0] 65)).drew:=⟨_,rfl⟩
 have hbk:Below W1.heap.size W1 Wk:=by rw [hWk];exact ((Below.refl _ _).alloc (Nat.le_refl _) _).drew
 have HBK:=Lib.hid hbk
 have HRA:=Lib.hid (own_kept H1.out.row hbk)
 have hS0:W1.drew.cell? ⟨w0.heap.size,1,none⟩=some (.slice o T.length c)∧W1.drew.cell? ⟨W.heap.size,2,none⟩=some (.string (BA s)):=⟨c1,cb⟩
 have hS1:Wk.cell? ⟨w0.heap.size,1,none⟩=some (.slice o T.length c)∧Wk.cell? ⟨W.heap.size,2,none⟩=some (.string (BA s)):=⟨keepc hbk c1,keepc hbk cb⟩
 have c3b:=hS1.1
 have f3b:Wk.frozen? ⟨w0.heap.size,1,none⟩=false:=(H1.out.kept hbk).box.free 1
 have HN:=Lib.hid (show ∀ (j:Nat) u,(tokA (un (tx s))).toList[j]?=some u→Wk.cell? ((⟨W1.heap.size,0,none⟩:Addr).add j)=some u by
  intro j u hu
  rw [hWk]
  exact blk_cells (Blk.new W1 65 #[.int .i64 3,.string (BA s),.int .i64 0,.int .i64 0]).drew j u hu)
 have hr2:w0.heap.size<Wk.heap.size:=Nat.lt_of_lt_of_le H1.out.box.lt hbk.size
 have hmx:T.length+1≤maxLen:=by unfold maxLen;omega
 have hby:(T.length+1)*40≤140737488355328:=by omega
 have HWK:=Lib.hid hWk
 obtain ⟨i0,hi0,hz0,hz1,hz2⟩:=info_parts tok_info
 clear hWk hbk
 rw [show (#[{dst:=some 17,op:=Op.move (Operand.tmp 0),type:=103,pos := "ref.go:41",after:=#[],guard:=none},{dst:=some 18,op:=Op.move (Operand.tmp 0),type:=103,pos := "ref.go:41",after:=#[],guard:=none},{dst:=some 19,op:=Op.nilCheck (Operand.tmp 18),type:=0,pos := "ref.go:41",after:=#[⟨1,.data⟩],guard:=none},{dst:=some 20,op:=Op.fieldAddr 105 (Operand.tmp 19) 1,type:=0,pos := "ref.go:41",after:=#[⟨2,.data⟩],guard:=none},{dst:=some 21,op:=Op.load 43 (Operand.tmp 20),type:=43,pos := "ref.go:41",after:=#[⟨3,.data⟩],guard:=none},{dst:=some 22,op:=Op.fieldAddr 37 (Operand.tmp 3) 2,type:=0,pos := "ref.go:41",after:=#[],guard:=none},{dst:=some 23,op:=Op.load 9 (Operand.tmp 22),type:=9,pos := "ref.go:41",after:=#[⟨5,.data⟩],guard:=none},{dst:=some 24,op:=Op.build 65 #[(0,Operand.const (Go.Value.int Go.IntKind.i64 3)),(1,Operand.tmp 23)],type:=65,pos := "ref.go:41",after:=#[⟨6,.data⟩],guard:=none},{dst:=some 25,op:=Op.buildSlice 43 1 #[(0,Operand.tmp 24)],type:=43,pos := "ref.go:41",after:=#[⟨7,.data⟩],guard:=none},{dst:=some 26,op:=Op.call {callee:=Callee.builtin Go.Builtin.append,args:=#[Operand.tmp 21,Operand.tmp 25],argTypes:=#[43,43]},type:=43,pos := "ref.go:41",after:=#[⟨4,.data⟩,⟨8,.data⟩],guard:=none},{dst:=some 27,op:=Op.nilCheck (Operand.tmp 17),type:=0,pos := "ref.go:41",after:=#[⟨0,.data⟩,⟨0,.phase⟩,⟨1,.phase⟩,⟨2,.phase⟩,⟨3,.phase⟩,⟨4,.phase⟩,⟨5,.phase⟩,⟨6,.phase⟩,⟨7,.phase⟩,⟨8,.phase⟩,⟨9,.phase⟩],guard:=none},{dst:=some 28,op:=Op.fieldAddr 105 (Operand.tmp 27) 1,type:=0,pos := "ref.go:41",after:=#[⟨10,.data⟩,⟨0,.phase⟩,⟨1,.phase⟩,⟨2,.phase⟩,⟨3,.phase⟩,⟨4,.phase⟩,⟨5,.phase⟩,⟨6,.phase⟩,⟨7,.phase⟩,⟨8,.phase⟩,⟨9,.phase⟩],guard:=none},{dst:=none,op:=Op.store 43 (Operand.tmp 28) (Operand.tmp 26),type:=0,pos := "ref.go:41",after:=#[⟨11,.data⟩,⟨9,.data⟩,⟨9,.chain⟩,⟨0,.phase⟩,⟨1,.phase⟩,⟨2,.phase⟩,⟨3,.phase⟩,⟨4,.phase⟩,⟨5,.phase⟩,⟨6,.phase⟩,⟨7,.phase⟩,⟨8,.phase⟩,⟨9,.phase⟩],guard:=none}]:Array Oper)=Array.push #[{dst:=some 17,op:=Op.move (Operand.tmp 0),type:=103,pos := "ref.go:41",after:=#[],guard:=none},{dst:=some 18,op:=Op.move (Operand.tmp 0),type:=103,pos := "ref.go:41",after:=#[],guard:=none},{dst:=some 19,op:=Op.nilCheck (Operand.tmp 18),type:=0,pos := "ref.go:41",after:=#[⟨1,.data⟩],guard:=none},{dst:=some 20,op:=Op.fieldAddr 105 (Operand.tmp 19) 1,type:=0,pos := "ref.go:41",after:=#[⟨2,.data⟩],guard:=none},{dst:=some 21,op:=Op.load 43 (Operand.tmp 20),type:=43,pos := "ref.go:41",after:=#[⟨3,.data⟩],guard:=none},{dst:=some 22,op:=Op.fieldAddr 37 (Operand.tmp 3) 2,type:=0,pos := "ref.go:41",after:=#[],guard:=none},{dst:=some 23,op:=Op.load 9 (Operand.tmp 22),type:=9,pos := "ref.go:41",after:=#[⟨5,.data⟩],guard:=none},{dst:=some 24,op:=Op.build 65 #[(0,Operand.const (Go.Value.int Go.IntKind.i64 3)),(1,Operand.tmp 23)],type:=65,pos := "ref.go:41",after:=#[⟨6,.data⟩],guard:=none},{dst:=some 25,op:=Op.buildSlice 43 1 #[(0,Operand.tmp 24)],type:=43,pos := "ref.go:41",after:=#[⟨7,.data⟩],guard:=none},{dst:=some 26,op:=Op.call {callee:=Callee.builtin Go.Builtin.append,args:=#[Operand.tmp 21,Operand.tmp 25],argTypes:=#[43,43]},type:=43,pos := "ref.go:41",after:=#[⟨4,.data⟩,⟨8,.data⟩],guard:=none},{dst:=some 27,op:=Op.nilCheck (Operand.tmp 17),type:=0,pos := "ref.go:41",after:=#[⟨0,.data⟩,⟨0,.phase⟩,⟨1,.phase⟩,⟨2,.phase⟩,⟨3,.phase⟩,⟨4,.phase⟩,⟨5,.phase⟩,⟨6,.phase⟩,⟨7,.phase⟩,⟨8,.phase⟩,⟨9,.phase⟩],guard:=none},{dst:=some 28,op:=Op.fieldAddr 105 (Operand.tmp 27) 1,type:=0,pos := "ref.go:41",after:=#[⟨10,.data⟩,⟨0,.phase⟩,⟨1,.phase⟩,⟨2,.phase⟩,⟨3,.phase⟩,⟨4,.phase⟩,⟨5,.phase⟩,⟨6,.phase⟩,⟨7,.phase⟩,⟨8,.phase⟩,⟨9,.phase⟩],guard:=none}] {dst:=none,op:=Op.store 43 (Operand.tmp 28) (Operand.tmp 26),type:=0,pos := "ref.go:41",after:=#[⟨11,.data⟩,⟨9,.data⟩,⟨9,.chain⟩,⟨0,.phase⟩,⟨1,.phase⟩,⟨2,.phase⟩,⟨3,.phase⟩,⟨4,.phase⟩,⟨5,.phase⟩,⟨6,.phase⟩,⟨7,.phase⟩,⟨8,.phase⟩,⟨9,.phase⟩],guard:=none} from rfl]
 refine wp_region_last (S:=fun w'=>w'.cell? ⟨w0.heap.size,1,none⟩=some (.slice o T.length c)∧w'.cell? ⟨W.heap.size,2,none⟩=some (.string (BA s))) (by kernel_rfl) (by kernel_rfl) hS0 (fun hHeld=>?_)
 refine wpAnyH_take (i:=0) (oi:={dst:=some 17,op:=Op.move (Operand.tmp 0),type:=103,pos := "ref.go:41",after:=#[],guard:=none}) (v := ?v1) rfl (by kernel_rfl) (by kernel_rfl) (by kernel_rfl) (fun _ _ _ h=>h) (Or.inl ⟨by rfl,?hy1⟩) (by assumption) ?rest1
 case hy1 =>
  intro w hSw
  (try dsimp only at hSw)
  go_simp
  try with_reducible rfl
 try simp only [Act.put,List.setIfInBounds_toArray,List.set_cons_zero,List.set_cons_succ]
 refine wpAnyH_take (i:=1) (oi:={dst:=some 18,op:=Op.move (Operand.tmp 0),type:=103,pos := "ref.go:41",after:=#[],guard:=none}) (v := ?v2) rfl (by kernel_rfl) (by kernel_rfl) (by kernel_rfl) (fun _ _ _ h=>h) (Or.inl ⟨by rfl,?hy2⟩) (by assumption) ?rest2
 case hy2 =>
  intro w hSw
  (try dsimp only at hSw)
  go_simp
  try with_reducible rfl
 try simp only [Act.put,List.setIfInBounds_toArray,List.set_cons_zero,List.set_cons_succ]
 refine wpAnyH_take (i:=2) (oi:={dst:=some 19,op:=Op.nilCheck (Operand.tmp 18),type:=0,pos := "ref.go:41",after:=#[⟨1,.data⟩],guard:=none}) (v := ?v3) rfl (by kernel_rfl) (by kernel_rfl) (by kernel_rfl) (fun _ _ _ h=>h) (Or.inl ⟨by rfl,?hy3⟩) (by assumption) ?rest3
 case hy3 =>
  intro w hSw
  (try dsimp only at hSw)
  go_simp
  try with_reducible rfl
 try simp only [Act.put,List.setIfInBounds_toArray,List.set_cons_zero,List.set_cons_succ]
 refine wpAnyH_take (i:=3) (oi:={dst:=some 20,op:=Op.fieldAddr 105 (Operand.tmp 19) 1,type:=0,pos := "ref.go:41",after:=#[⟨2,.data⟩],guard:=none}) (v := ?v4) rfl (by kernel_rfl) (by kernel_rfl) (by kernel_rfl) (fun _ _ _ h=>h) (Or.inl ⟨by rfl,?hy4⟩) (by assumption) ?rest4
 case hy4 =>
  intro w hSw
  (try dsimp only at hSw)
  go_simp
  try with_reducible rfl
 try simp only [Act.put,List.setIfInBounds_toArray,List.set_cons_zero,List.set_cons_succ]
 refine wpAnyH_take (i:=4) (oi:={dst:=some 21,op:=Op.load 43 (Operand.tmp 20),type:=43,pos := "ref.go:41",after:=#[⟨3,.data⟩],guard:=none}) (v := ?v5) rfl (by kernel_rfl) (by kernel_rfl) (by kernel_rfl) (fun _ _ _ h=>h) (Or.inl ⟨by rfl,?hy5⟩) (by assumption) ?rest5
 case hy5 =>
  intro w hSw
  (try dsimp only at hSw)
  go_simp
  try with_reducible rfl
 try simp only [Act.put,List.setIfInBounds_toArray,List.set_cons_zero,List.set_cons_succ]
 refine wpAnyH_take (i:=5) (oi:={dst:=some 22,op:=Op.fieldAddr 37 (Operand.tmp 3) 2,type:=0,pos := "ref.go:41",after:=#[],guard:=none}) (v := ?v6) rfl (by kernel_rfl) (by kernel_rfl) (by kernel_rfl) (fun _ _ _ h=>h) (Or.inl ⟨by rfl,?hy6⟩) (by assumption) ?rest6
 case hy6 =>
  intro w hSw
  (try dsimp only at hSw)
  go_simp
  try with_reducible rfl
 try simp only [Act.put,List.setIfInBounds_toArray,List.set_cons_zero,List.set_cons_succ]
 refine wpAnyH_take (i:=6) (oi:={dst:=some 23,op:=Op.load 9 (Operand.tmp 22),type:=9,pos := "ref.go:41",after:=#[⟨5,.data⟩],guard:=none}) (v := ?v7) rfl (by kernel_rfl) (by kernel_rfl) (by kernel_rfl) (fun _ _ _ h=>h) (Or.inl ⟨by rfl,?hy7⟩) (by assumption) ?rest7
 case hy7 =>
  intro w hSw
  (try dsimp only at hSw)
  go_simp
  try with_reducible rfl
 try simp only [Act.put,List.setIfInBounds_toArray,List.set_cons_zero,List.set_cons_succ]
 refine wpAnyH_take (i:=7) (oi:={dst:=some 24,op:=Op.build 65 #[(0,Operand.const (Go.Value.int Go.IntKind.i64 3)),(1,Operand.tmp 23)],type:=65,pos := "ref.go:41",after:=#[⟨6,.data⟩],guard:=none}) (v := ?v8) rfl (by kernel_rfl) (by kernel_rfl) (by kernel_rfl) (fun _ _ _ h=>h) (Or.inl ⟨by rfl,?hy8⟩) (by assumption) ?rest8
 case hy8 =>
  intro w hSw
  (try dsimp only at hSw)
  go_simp
  try with_reducible rfl
 try simp only [Act.put,List.setIfInBounds_toArray,List.set_cons_zero,List.set_cons_succ]
 refine wpAnyH_ready (rs:=[8]) (by kernel_rfl) (by simp) ?_
 refine AllReadyH.cons (o:={dst:=some 25,op:=Op.buildSlice 43 1 #[(0,Operand.tmp 24)],type:=43,pos := "ref.go:41",after:=#[⟨7,.data⟩],guard:=none}) rfl (fun K hK=>?_) ?_
 ·go_simp
  rw [show (W1.alloc (Obj.cells #[.int .i64 3,.string (BA s),.int .i64 0,.int .i64 0] 65)).drew=Wk from HWK.out.symm]
  refine hK.out _ _ ?_ (fun hHeld=>?_)
  ·exact hS1
  ·clear hK K
   try simp only [Act.put,List.setIfInBounds_toArray,List.set_cons_zero,List.set_cons_succ]
   refine wpAnyH_ready (rs:=[9]) (by kernel_rfl) (by simp) ?_
   refine AllReadyH.cons (o:={dst:=some 26,op:=Op.call {callee:=Callee.builtin Go.Builtin.append,args:=#[Operand.tmp 21,Operand.tmp 25],argTypes:=#[43,43]},type:=43,pos := "ref.go:41",after:=#[⟨4,.data⟩,⟨8,.data⟩],guard:=none}) rfl (fun K hK=>?_) ?_
   ·refine step_append_lies _ (by rfl) _ _ _ (by rfl) (w0.heap.size+1) 65 i0 _ 4 40 (by kernel_rfl) hi0 hz0 hz1 hz2 (by rfl) (by decide) _ T.length (toksL (T.map un)) (by rfl) HRA.out ⟨W1.heap.size,0,none⟩ 1 1 (tokA (un (tx s))).toList (by rfl) (by rfl) HN.out (by simp [tokA,un,Value.oneCell']) (by decide) hmx hby hr2 _ rfl ?_
    intro g cap w1 ho hg hgH hlt
    have HF:=Lib.hid (H1.out.more HBK.out ho hg hgH)
    have c3:w1.cell? ⟨w0.heap.size,1,none⟩=some (.slice o T.length c):=hg.cell c3b (fun e=>H1.out.ne e.symm)
    have f3:w1.frozen? ⟨w0.heap.size,1,none⟩=false:=(World.frozen?_of_block (hg.block _ hr2 (fun e=>H1.out.ne e.symm))).trans f3b
    have c4:w1.cell? ⟨W.heap.size,2,none⟩=some (.string (BA s)):=hg.cell hS1.2 (fun e=>HNE.out e.symm)
    clear ho hg hgH hlt
    refine hK.out _ _ ?_ (fun hHeld=>?_)
    ·exact ⟨c3,c4⟩
    ·clear hK K
     try simp only [Act.put,List.setIfInBounds_toArray,List.set_cons_zero,List.set_cons_succ]
     refine wpAnyH_take (i:=10) (oi:={dst:=some 27,op:=Op.nilCheck (Operand.tmp 17),type:=0,pos := "ref.go:41",after:=#[⟨0,.data⟩,⟨0,.phase⟩,⟨1,.phase⟩,⟨2,.phase⟩,⟨3,.phase⟩,⟨4,.phase⟩,⟨5,.phase⟩,⟨6,.phase⟩,⟨7,.phase⟩,⟨8,.phase⟩,⟨9,.phase⟩],guard:=none}) (v := ?v9) rfl (by kernel_rfl) (by kernel_rfl) (by kernel_rfl) (fun _ _ _ h=>h) (Or.inl ⟨by rfl,?hy9⟩) (by assumption) ?rest9
     case hy9 =>
      intro w hSw
      (try dsimp only at hSw)
      go_simp
      try with_reducible rfl
     try simp only [Act.put,List.setIfInBounds_toArray,List.set_cons_zero,List.set_cons_succ]
     refine wpAnyH_take (i:=11) (oi:={dst:=some 28,op:=Op.fieldAddr 105 (Operand.tmp 27) 1,type:=0,pos := "ref.go:41",after:=#[⟨10,.data⟩,⟨0,.phase⟩,⟨1,.phase⟩,⟨2,.phase⟩,⟨3,.phase⟩,⟨4,.phase⟩,⟨5,.phase⟩,⟨6,.phase⟩,⟨7,.phase⟩,⟨8,.phase⟩,⟨9,.phase⟩],guard:=none}) (v := ?v10) rfl (by kernel_rfl) (by kernel_rfl) (by kernel_rfl) (fun _ _ _ h=>h) (Or.inl ⟨by rfl,?hy10⟩) (by assumption) ?rest10
     case hy10 =>
      intro w hSw
      (try dsimp only at hSw)
      go_simp
      try with_reducible rfl
     try simp only [Act.put,List.setIfInBounds_toArray,List.set_cons_zero,List.set_cons_succ]
     refine wpAnyH_done (by kernel_rfl) ?_ _
     refine then_step (fun K hK=>?_)
     go_simp
     refine hK.out _ _ ?_
     clear hK K
     go_wp2_with fail
     exact bodyPost_end (v:=.tuple #[]) (results_none rfl _ _ _) rfl ⟨rfl,_,HF.out.1,Stp.trans (Stp.of HB.out) HF.out.2⟩
   exact AllReadyH.nil
 exact AllReadyH.nil
theorem value_int (n:Int) (h:LN w0 nv lv T W) (hT:T.length≤5000):Calls Tryz.prog 131 #[RP w0.heap.size,.agg (valA ⟨1,n,[]⟩)] W (LNP w0 nv lv (T++[nm n]) W):=by
 obtain ⟨W1,hW1⟩:∃ W1,W1=W.alloc (.cells (valA ⟨1,n,[]⟩) 37):=⟨_,rfl⟩
 have hb:Below W.heap.size W W1:=by rw [hW1];exact (Below.refl _ _).alloc (Nat.le_refl _) _
 have hx:Blk W1 W.heap.size 37 (valA ⟨1,n,[]⟩):=by rw [hW1];exact Blk.new W _ _
 have HC:=Lib.hid (number_r n (h.kept hb) hT)
 have HB:=Lib.hid hb
 have c0:W1.cell? ⟨W.heap.size,0,none⟩=some (.int .i64 1):=hx.cell 0
 have c1:W1.cell? ⟨W.heap.size,1,none⟩=some (.int .i64 n):=hx.cell 1
 have HRW:=Lib.hid (show ∀ (K:World→Prop),K W1→K (W.alloc (.cells (valA ⟨1,n,[]⟩) 37)) from fun K h=>by rw [← hW1];exact h)
 clear h hb hx hW1
 go_enter Tryz.func131,Tryz.ntmps131
 go_upto_region 1 with fail
 refine HRW.out _ ?_
 go_wp2_with fail
 refine HC.out.mono ?_
 rintro e w2 ⟨rfl,lv',h2,s2⟩
 have HF:=Lib.hid (And.intro h2 (Stp.trans (Stp.of HB.out) s2))
 clear h2 s2 c0 c1
 go_wp2_with fail
 exact bodyPost_end (v:=.tuple #[]) (results_none rfl _ _ _) rfl ⟨rfl,_,HF.out.1,HF.out.2⟩
theorem value_bool (n:Int) (hn:n=0∨n=1) (h:LN w0 nv lv T W) (hT:T.length≤5000):Calls Tryz.prog 131 #[RP w0.heap.size,.agg (valA ⟨3,n,[]⟩)] W (LNP w0 nv lv (T++[wd (if n=1 then [116,114,117,101] else [102,97,108,115,101])]) W):=by
 obtain ⟨W1,hW1⟩:∃ W1,W1=W.alloc (.cells (valA ⟨3,n,[]⟩) 37):=⟨_,rfl⟩
 have hb:Below W.heap.size W W1:=by rw [hW1];exact (Below.refl _ _).alloc (Nat.le_refl _) _
 have hx:Blk W1 W.heap.size 37 (valA ⟨3,n,[]⟩):=by rw [hW1];exact Blk.new W _ _
 have HT:=Lib.hid (word_r [116,114,117,101] (h.kept hb) hT)
 have HE:=Lib.hid (word_r [102,97,108,115,101] (h.kept hb) hT)
 have HB:=Lib.hid hb
 have c0:W1.cell? ⟨W.heap.size,0,none⟩=some (.int .i64 3):=hx.cell 0
 have c1:W1.cell? ⟨W.heap.size,1,none⟩=some (.int .i64 n):=hx.cell 1
 have HRW:=Lib.hid (show ∀ (K:World→Prop),K W1→K (W.alloc (.cells (valA ⟨3,n,[]⟩) 37)) from fun K h=>by rw [← hW1];exact h)
 clear h hb hx hW1
 rcases hn with rfl | rfl
 ·rw [if_neg (by omega)]
  go_enter Tryz.func131,Tryz.ntmps131
  go_upto_region 1 with fail
  refine HRW.out _ ?_
  go_wp2_with fail
  refine HE.out.mono ?_
  rintro e w2 ⟨rfl,lv',h2,s2⟩
  have HF:=Lib.hid (And.intro h2 (Stp.trans (Stp.of HB.out) s2))
  clear h2 s2 c0 c1
  go_wp2_with fail
  exact bodyPost_end (v:=.tuple #[]) (results_none rfl _ _ _) rfl ⟨rfl,_,HF.out.1,HF.out.2⟩
 ·rw [if_pos rfl]
  go_enter Tryz.func131,Tryz.ntmps131
  go_upto_region 1 with fail
  refine HRW.out _ ?_
  go_wp2_with fail
  refine HT.out.mono ?_
  rintro e w2 ⟨rfl,lv',h2,s2⟩
  have HF:=Lib.hid (And.intro h2 (Stp.trans (Stp.of HB.out) s2))
  clear h2 s2 c0 c1
  go_wp2_with fail
  exact bodyPost_end (v:=.tuple #[]) (results_none rfl _ _ _) rfl ⟨rfl,_,HF.out.1,HF.out.2⟩
theorem lvalue_r {v:Val} (hv:ValOk v) (h:LN w0 nv lv T W) (hT:T.length≤5000):Calls Tryz.prog 131 #[RP w0.heap.size,.agg (valA v)] W (LNP w0 nv lv (T++valT v) W):=by
 obtain ⟨k,n,s⟩:=v
 unfold ValOk at hv
 dsimp only at hv
 rcases hv with ⟨rfl,rfl⟩ | ⟨rfl,rfl⟩ | ⟨rfl,rfl,hn⟩
 ·exact value_int n h hT
 ·exact value_text s h hT
 ·exact value_bool n hn h hT
variable {ns:List Nd} {g cap i:Nat} {nd:Nd}
theorem LN.nodes (h:LN w0 (.slice (some ⟨g,0,none⟩) ns.length cap) lv T W) (hn:NR w0 (.slice (some ⟨g,0,none⟩) ns.length cap) ns):NR W (.slice (some ⟨g,0,none⟩) ns.length cap) ns:=hn.stayP h.below
theorem rank_r (h:LN w0 (.slice (some ⟨g,0,none⟩) ns.length cap) lv T W) (hn:NR w0 (.slice (some ⟨g,0,none⟩) ns.length cap) ns) (hi:ns[i]?=some nd) :
 Calls Tryz.prog 130 #[RP w0.heap.size,.int .i64 (i:Int)] W fun e W'=>e=.returned (.int .i64 ((if nd.kind=12 then 1 else if nd.kind=11 then 2 else 3:Nat):Int))∧W'=W:=by
 obtain ⟨mx,bx,hmx,_,hrx,_,_⟩:=nr_rangeP (h.nodes hn) hi
 have gx:W.cell? ⟨g,i*19,none⟩=some (.int .i64 (nd.kind:Int)):=by
  have:=hrx 0 (.int .i64 (nd.kind:Int)) (by rw [← hmx];rfl)
  rwa [Nat.add_zero] at this
 have c0:W.cell? ⟨w0.heap.size,0,none⟩=some (.slice (some ⟨g,0,none⟩) ns.length cap):=h.box.cell 0
 have hlt:i<ns.length:=(List.getElem?_eq_some_iff.1 hi).1
 have n1:(i:Int)<(ns.length:Int):=by omega
 have n2:(0:Int)≤(i:Int):=by omega
 clear hrx hmx h hn hi
 go_enter Tryz.func130,Tryz.ntmps130
 by_cases h1:nd.kind=12
 ·rw [h1] at gx ⊢
  clear h1
  go_wp2_with fail
  exact bodyPost_ret (results_tmp rfl _ _ _) rfl ⟨rfl,rfl⟩
 ·have b1:¬ (nd.kind:Int)=12:=by omega
  have b1':((nd.kind:Int) == 12)=false:=by rw [beq_eq_false_iff_ne];omega
  by_cases h2:nd.kind=11
  ·rw [h2] at gx ⊢
   clear h1 h2 b1 b1'
   go_wp2_with fail
   exact bodyPost_ret (results_tmp rfl _ _ _) rfl ⟨rfl,rfl⟩
  ·have b2:¬ (nd.kind:Int)=11:=by omega
   have b2':((nd.kind:Int) == 11)=false:=by rw [beq_eq_false_iff_ne];omega
   rw [if_neg h1,if_neg h2]
   clear h1 h2
   go_wp2_with fail
   exact bodyPost_ret (results_tmp rfl _ _ _) rfl ⟨rfl,rfl⟩
theorem below_r {k x:Nat} (h:LN w0 (.slice (some ⟨g,0,none⟩) ns.length cap) lv T W) (hT:T.length≤4000) (hn:NR w0 (.slice (some ⟨g,0,none⟩) ns.length cap) ns) (hi:ns[i]?=some nd) (hk:nd.l[k]?=some x) (hx:x<i) :
 Calls Tryz.prog 93 #[RP w0.heap.size,.int .i64 (i:Int),.int .i64 (k:Int)] W fun e W'=>e=.returned (.int .i64 (x:Int))∧W'=W:=by
 obtain ⟨mx,bx,hmx,hmk,hrx,_,_⟩:=nr_rangeP (h.nodes hn) hi
 obtain ⟨gl,cl,hlv,hg0⟩:=rows_of hmk hmx hk
 have gx:W.cell? ⟨g,i*19+16,none⟩=some (.slice (some ⟨gl,0,none⟩) nd.l.length cl):=by
  have:=hrx 16 (.slice (some ⟨gl,0,none⟩) nd.l.length cl) (by rw [← hlv];rfl)
  exact this
 have c0:W.cell? ⟨w0.heap.size,0,none⟩=some (.slice (some ⟨g,0,none⟩) ns.length cap):=h.box.cell 0
 have c1:W.cell? ⟨w0.heap.size,1,none⟩=some lv:=h.box.cell 1
 obtain ⟨o,c,rfl⟩:=row_slice h.row
 have hlt:i<ns.length:=(List.getElem?_eq_some_iff.1 hi).1
 have hkl:k<nd.l.length:=(List.getElem?_eq_some_iff.1 hk).1
 have n1:(i:Int)<(ns.length:Int):=by omega
 have n2:(0:Int)≤(i:Int):=by omega
 have n3:(k:Int)<(nd.l.length:Int):=by omega
 have n4:(0:Int)≤(k:Int):=by omega
 have n5:¬ (nd.l.length:Int)≤(k:Int):=by omega
 have n5':decide ((nd.l.length:Int)≤(k:Int))=false:=decide_eq_false n5
 have n6:¬ (x:Int)<0:=by omega
 have n6':decide ((x:Int)<0)=false:=decide_eq_false n6
 have n7:¬ (i:Int)≤(x:Int):=by omega
 have n7':decide ((i:Int)≤(x:Int))=false:=decide_eq_false n7
 have n8:¬ (4000:Int)<(T.length:Int):=by omega
 have n8':decide ((4000:Int)<(T.length:Int))=false:=decide_eq_false n8
 clear hrx hmx hmk hlv h hn hi hk
 go_enter Tryz.func93,Tryz.ntmps93
 go_wp2_with fail
 exact bodyPost_ret (results_tmp rfl _ _ _) rfl ⟨rfl,rfl⟩
theorem list_r {b:Nat} {v:Value} {l:List Bytes} (hr:w0.ownsRow b 9 1 v l.length (strsL l)) (hl:l.length≤1100) (h:LN w0 nv lv T W) (hT:T.length≤2048) :
 Calls Tryz.prog 96 #[RP w0.heap.size,v] W (LNP w0 nv lv (T++namesT l) W):=by
 obtain ⟨p,c,rfl,_,q2,q3⟩:=row_cells hr
 have H1:=Lib.hid q3
 have HL:=Lib.hid h
 clear hr q3 h q2
 go_enter Tryz.func96,Tryz.ntmps96
 go_wp2_with fail
 go_loopg [4] (l.length+1) (fun gk c wr => ∃ i:Nat,i≤l.length∧l.length<i+gk∧c=.int .i64 (i:Int)∧∃ lv',LN w0 nv lv' (T++namesT (l.take i)) wr∧Stp w0.heap.size lv W lv' wr)
 case atStart=>exact ⟨0,Nat.zero_le _,by omega,rfl,lv,by rw [List.take_zero];show LN w0 nv lv (T++[]) W;rw [List.append_nil];exact HL.out,Stp.refl _ _ _⟩
 case round =>
  obtain ⟨i,hi,hgk,rfl,lv',hln,hst⟩:=hrel
  have HN:=Lib.hid hln
  have HS:=Lib.hid hst
  have hlen:(namesT (l.take i)).length≤2*i:=by
   have h1:∀ r:List Bytes,(namesT r).length≤2*r.length:=by
    intro r
    cases r with
    | nil=>exact Nat.zero_le _
    | cons a r =>
      show ([wd a]++(r.map fun s=>[wd s]).flatMap fun y=>sg kw_comma::y).length≤_
      have:∀ r:List Bytes,((r.map fun s=>[wd s]).flatMap fun y=>sg kw_comma::y).length=2*r.length:=by
       intro r
       induction r with
       | nil=>rfl
       | cons x r ih=>simp only [List.map_cons,List.flatMap_cons,List.length_append,ih,List.length_cons,List.length_nil];omega
      rw [List.length_append,this]
      simp
      omega
   have:=h1 (l.take i)
   rw [List.length_take] at this
   omega
  clear hln hst
  by_cases hlt:i<l.length
  ·obtain ⟨g,rfl,hg⟩:=H1.out (by omega)
   obtain ⟨x,hx⟩:∃ x,l[i]?=some x:=⟨l[i],List.getElem?_eq_getElem hlt⟩
   have HU:=Lib.hid (show ∀ W',Below w0.heap.size w0 W'→W'.cell? ⟨g,i,none⟩=some (.string (BA x)) from fun W' hb=>keepc hb (hg _ _ (strsL_get hx)))
   have n1:(i:Int)<(l.length:Int):=by omega
   have n2:(0:Int)≤(i:Int):=by omega
   have n3:decide ((i:Int)<(l.length:Int))=true:=decide_eq_true n1
   have w1_:IntKind.i64.wrap ((i:Int)+1)=(i:Int)+1:=IntWalk.i64_in _ (by omega)
   have HTK:=Lib.hid (show namesT (l.take (i+1))=(if i=0 then namesT (l.take i) else namesT (l.take i)++[sg kw_comma])++[wd x] by
    rw [List.take_add_one,hx]
    by_cases h0:i=0
    ·subst h0
     rfl
    ·rw [if_neg h0]
     have hne:(l.take i).map (fun s=>[wd s]) ≠ []:=by
      intro e
      have:=congrArg List.length e
      rw [List.length_map,List.length_take] at this
      have h9:min i l.length=0:=this
      omega
     show sep ((l.take i++[x]).map fun s=>[wd s])=_
     rw [List.map_append]
     exact sep_app hne [wd x])
   clear hg hx
   by_cases h0:i=0
   ·subst h0
    have HW:=Lib.hid (word_r x HN.out (by rw [List.length_append];omega))
    have u1:=HU.out _ HN.out.below
    go_wp2_with fail
    refine HW.out.mono ?_
    rintro e w2 ⟨rfl,lv2,h2,s2⟩
    have HF:=Lib.hid (And.intro h2 (Stp.trans HS.out s2))
    clear h2 s2 u1
    go_wp2_with fail
    go_roundg (l.length-0)
    case measure=>omega
    case rel=>exact ⟨1,by omega,by omega,rfl,lv2,by have e:=HTK.out;rw [show namesT (l.take 1)=namesT (l.take 0)++[wd x] by simpa using e,← List.append_assoc];exact HF.out.1,HF.out.2⟩
   ·have n4:(0:Int)<(i:Int):=by omega
    have n5:decide ((0:Int)<(i:Int))=true:=decide_eq_true n4
    have HC:=Lib.hid (sign_r kw_comma HN.out (by rw [List.length_append];omega))
    have H0:=Lib.hid h0
    clear h0
    go_wp2_with fail
    refine HC.out.mono ?_
    rintro e w2 ⟨rfl,lv2,h2,s2⟩
    have HW:=Lib.hid (word_r x h2 (by rw [List.length_append,List.length_append];simp;omega))
    have HS2:=Lib.hid (Stp.trans HS.out s2)
    have u1:=HU.out _ h2.below
    clear h2 s2
    go_wp2_with fail
    refine HW.out.mono ?_
    rintro e w3 ⟨rfl,lv3,h3,s3⟩
    have HF:=Lib.hid (And.intro h3 (Stp.trans HS2.out s3))
    clear h3 s3 u1
    go_wp2_with fail
    go_roundg (l.length-i)
    case measure=>omega
    case rel=>exact ⟨i+1,by omega,by omega,rfl,lv3,by rw [HTK.out,if_neg H0.out,← List.append_assoc,← List.append_assoc];exact HF.out.1,HF.out.2⟩
  ·have hil:i=l.length:=by omega
   have n1:¬ (i:Int)<(l.length:Int):=by omega
   have n3:decide ((i:Int)<(l.length:Int))=false:=decide_eq_false n1
   have HF:=Lib.hid (show LN w0 nv lv' (T++namesT l) wr by have:=HN.out;rwa [hil,List.take_length] at this)
   clear hil
   go_wp2_with fail
   exact bodyPost_end (v:=.tuple #[]) (results_none rfl _ _ _) rfl ⟨rfl,_,HF.out,HS.out⟩
end
end Go.Proofs.YtnaehhpikhlppaaGreatDoor
