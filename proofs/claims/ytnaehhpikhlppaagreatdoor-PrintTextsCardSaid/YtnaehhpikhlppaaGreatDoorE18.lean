/- Several texts of the proof, joined. -/
import Derived.Test.YtnaehhpikhlppaaGreatDoorE17
import Derived.Deep.CutBlock
set_option maxHeartbeats 4000000
set_option maxRecDepth 100000
set_option linter.unusedVariables false
set_option linter.unusedSimpArgs false
namespace Go.Proofs.YtnaehhpikhlppaaGreatDoor
open Go.RowKit LexS ParS BigFrame
attribute [local go_sem] field_tok1 field_tok2
attribute [local go_sem] World.cell?_alloc_some cell_drewN_new free_drewN_new cell_drew_new free_drew_new
section
variable {base r deep:Nat} {tv nv nv' nv0:Value} {T:List Tok} {ts ts1:List Tk} {ns ns1:List Nd} {W W' Wx:World} {m:NodeM} {rows:Nat}
theorem Stp.far {b:Nat} (h:Stp r nv0 W nv W') (hb:W.heap.size≤b) (i:Nat) (u:Value):Stp r nv0 W nv (W'.setCell ⟨b,i,none⟩ u) :=
 ⟨h.os,h.tape,h.output,by simpa [World.setCell] using h.size,fun j hj h1 h2=>by
  rw [← h.block j hj h1 h2]
  simp only [World.setCell,Array.getElem?_modify]
  rw [if_neg (by omega)],h.own⟩
theorem own_base {b b' size n:Nat} {e:TypeId} {v:Value} {xs:List Value} (h:W.ownsRow b e size v n xs) (hb:b'≤b):W.ownsRow b' e size v n xs:=by
 refine ⟨h.1,?_⟩
 rcases h.2 with h2 | ⟨g,cap,cur,h2,h3,h4⟩
 ·exact .inl h2
 ·exact .inr ⟨g,cap,cur,h2,Nat.le_trans hb h3,h4⟩
theorem row_far {b:Nat} {t:TypeId} {cs:Array Value} {b2 size n:Nat} {e:TypeId} {v:Value} {xs:List Value} (h:W.ownsRow b2 e size v n xs) (hb:Blk W b t cs) (ht:e≠t) (i:Nat) (u:Value):(W.setCell ⟨b,i,none⟩ u).ownsRow b2 e size v n xs:=by
 refine ⟨h.1,?_⟩
 rcases h.2 with h4 | ⟨g,cap,cur,rfl,h5,h6,h7⟩
 ·exact .inl h4
 ·refine .inr ⟨g,cap,cur,rfl,h5,?_,h7⟩
  rw [← h6]
  simp only [World.setCell,Array.getElem?_modify]
  rw [if_neg (fun e1=>by
   rw [← e1] at h6
   exact ht (block_types h6 hb))]
structure XK (base r:Nat) (tv:Value) (T:List Tok) (deep:Nat) (nv0:Value) (W:World) (rows:Nat) (ts:List Tk) (ns:List Nd) (nv:Value) (m:NodeM) (Wx:World):Prop where
 rs:RS base r tv T deep ts ns nv Wx
 st:Stp r nv0 W nv Wx
 xb:Blk Wx (W.heap.size+1) 42 m.cells.toArray
 l0:Blk Wx W.heap.size 3 #[.int .i64 (rows:Int)]
 nn:nv.ownBlock≠some (W.heap.size+1)
 hr:r<W.heap.size
theorem XK.kept (h:XK base r tv T deep nv0 W rows ts ns nv m Wx) (hb:Below Wx.heap.size Wx W'):XK base r tv T deep nv0 W rows ts ns nv m W' :=
 ⟨h.rs.kept hb,h.st.trans (Stp.of hb),h.xb.kept hb,h.l0.kept hb,h.nn,h.hr⟩
theorem XK.l0_ne (h:XK base r tv T deep nv0 W rows ts ns nv m Wx):nv.ownBlock≠some W.heap.size:=fun e=>by
 obtain ⟨_,cur,hc⟩:=h.rs.nodes.block e
 have:=block_types hc h.l0
 cases this
theorem XK.move (h:XK base r tv T deep nv0 W rows ts ns nv m Wx) (h1:RS base r tv T deep ts1 ns1 nv' W') (s:Stp r nv Wx nv' W'):XK base r tv T deep nv0 W rows ts1 ns1 nv' m W':=by
 have hr:=h.hr
 refine ⟨h1,h.st.trans s,s.blk h.xb (by omega) h.nn,s.blk h.l0 (by omega) h.l0_ne,fun e=>?_,h.hr⟩
 rcases s.own _ e with e1 | e1
 ·exact h.nn e1
 ·have:=h.xb.lt
  omega
theorem XK.moveM (h:XK base r tv T deep nv0 W rows ts ns nv m Wx) (h1:RS base r tv T deep ts1 ns nv W') (s:Mv r Wx W'):XK base r tv T deep nv0 W rows ts1 ns nv m W':=h.move h1 (Mv.stp s nv)
theorem XK.put {m2:NodeM} (h:XK base r tv T deep nv0 W rows ts ns nv m Wx) (i:Nat) (u:Value) (hm:m.cells.set i u=m2.cells):XK base r tv T deep nv0 W rows ts ns nv m2 (Wx.setCell ⟨W.heap.size+1,i,none⟩ u):=by
 have hr:=h.hr
 have hx:=box_put h.xb i u
 rw [hm] at hx
 exact ⟨h.rs.far h.xb (by decide) h.nn (by omega) i u,Stp.far h.st (by omega) i u,hx,h.l0.far (by show W.heap.size≠W.heap.size+1;omega) _,h.nn,h.hr⟩
abbrev stepM (kd:Nat) (s:Bytes) (n:Int) (l:List Nat) (nm:List Bytes) (ag:List (Nat×Bytes)) (lv nv av:Value):NodeM:=⟨{node kd l with s:=s,n:=n,names:=nm,aggs:=ag},lv,nv,av⟩
abbrev L1 (W:World):Value:=.slice (some ⟨W.heap.size,0,none⟩) 1 1
theorem row_slice {w:World} {b e:Nat} {v:Value} {n size:Nat} {xs:List Value} (h:w.ownsRow b e size v n xs):∃ o cap,v=.slice o n cap:=by
 rcases h.2 with ⟨h1,h2⟩ | ⟨g,cap,cur,h2,_⟩
 ·exact ⟨none,0,by rw [h2];exact h1⟩
 ·exact ⟨_,cap,h2⟩
theorem XK.one (h:XK base r tv T deep nv0 W rows ts ns nv m Wx) (hb:base≤W.heap.size):Wx.ownsRow base 3 1 (L1 W) 1 (intsL [rows]):=own_blk h.l0 hb rfl (by decide)
theorem append_none {w w':World} (h:w.grownBy w' none):Below w.heap.size w w':=⟨h.os,h.tape,h.output,h.size,fun k hk=>h.block k hk (by simp)⟩
theorem row_one {w:World} {b e:Nat} {v:Value} {n size:Nat} {xs:List Value} (h:w.ownsRow b e size v n xs) (hn:0<n):∃ g cap,v=.slice (some ⟨g,0,none⟩) n cap:=by
 rcases h.2 with ⟨_,h2⟩ | ⟨g,cap,cur,h2,_⟩
 ·omega
 ·exact ⟨g,cap,h2⟩
def StepR (base r:Nat) (tv:Value) (T:List Tok) (deep:Nat) (nv0:Value) (W:World) (x:Except Er (Nat×List Tk×List Nd)) (wx:World):Prop :=
 ∃ (m:NodeM) (ts2:List Tk) (ns2:List Nd) (nv2:Value),x=.ok (ns2.length,ts2,ns2++[m.node])∧RS base r tv T deep ts2 ns2 nv2 wx∧Stp r nv0 W nv2 wx∧Blk wx (W.heap.size+1) 42 m.cells.toArray∧MOk wx base m∧ns2.length≤5000
theorem step_any {inner cond:M Nat} (hcond:Reads 144 cond deep) (ncond:Cost 0 0 cond) (hinner:Reads 147 (brk inner) deep) (ninner:Cost 0 0 (brk inner))
 (h:RS base r tv T deep ts ns nv W) (hbase:base≤W.heap.size) (hB:ns.length+ts.length≤5000) :
 Calls Tryz.prog 107 #[RP r,.int .i64 (rows:Int)] W (PostN base r tv T deep nv W (stepOf inner cond rows ts ns)):=by
 have hr:=h.box.lt
 obtain ⟨W0,hW0⟩:∃ W0,W0=W.alloc (.cells #[.int .i64 (rows:Int)] 3):=⟨_,rfl⟩
 have hb0:Below W.heap.size W W0:=by rw [hW0];exact (Below.refl _ _).alloc (Nat.le_refl _) _
 have hl0:Blk W0 W.heap.size 3 #[.int .i64 (rows:Int)]:=by rw [hW0];exact Blk.new W _ _
 have hsz:W0.heap.size=W.heap.size+1:=by rw [hW0];exact World.size_alloc _ _
 have H0:=Lib.hid (And.intro (h.kept hb0) (And.intro hb0 hl0))
 have hth:=nd_there W0
 have HSZ:=Lib.hid hsz
 rw [hsz] at hth
 have HW:=Lib.hid hW0
 have hone:(stepM 0 [] 0 [rows] [] [] (L1 W) (.slice none 0 0) (.slice none 0 0)).cells.toArray.all (·.oneCell')=true:=one_nd 0 [] 0 0 0 noVal rfl rfl rfl [rows] [] []
 have hown:∀ k,nv.ownBlock=some k→k<W.heap.size:=fun k hk=>by
  obtain ⟨_,cur,hc⟩:=h.nodes.block hk
  exact (Array.getElem?_eq_some_iff.1 hc).1
 have HOW:=Lib.hid hown
 have HC:=Lib.hid (And.intro hcond ncond)
 have HI:=Lib.hid (And.intro hinner ninner)
 clear h hb0 hl0 hown hcond ncond hinner ninner hsz
 go_enter Tryz.func107,Tryz.ntmps107
 go_upto_region 2 with (refine wpList_store_mid (by rfl) 42 (.tmp 5) (.tmp 8) (by rfl) (W.heap.size+1) 0 (stepM 0 [] 0 [rows] [] [] (L1 W) (.slice none 0 0) (.slice none 0 0)).cells.toArray (by rfl) (by rfl) (by rw [← HW.out];exact hth) sizeNode hone ?_
                        generalize hw1:World.setCells _ _ _ _=w1)
 have f1:=nd_stored (w3:=W0) (m:=stepM 0 [] 0 [rows] [] [] (L1 W) (.slice none 0 0) (.slice none 0 0)) (w4:=w1) (by rw [HSZ.out,HW.out];exact hw1)
 have K1:=Lib.hid (show XK base r tv T deep nv W rows ts ns nv (stepM 0 [] 0 [rows] [] [] (L1 W) (.slice none 0 0) (.slice none 0 0)) w1 from
  ⟨H0.out.1.kept f1.1,(Stp.of H0.out.2.1).trans (Stp.of f1.1),by have:=f1.2;rwa [HSZ.out] at this,H0.out.2.2.kept f1.1,fun e=>by have:=HOW.out _ e;omega,hr⟩)
 obtain ⟨w2,hw2⟩:∃ w2,w2=w1.alloc (.cells #[.string ⟨#[119,104,101,114,101]⟩,.string ⟨#[107,101,101,112]⟩,.string ⟨#[97,108,105,103,110]⟩,.string ⟨#[103,114,111,117,112]⟩,.string ⟨#[116,111,112]⟩,.string ⟨#[106,111,105,110]⟩,.string ⟨#[117,110,105,111,110]⟩] 9):=⟨_,rfl⟩
 have hb2:Below w1.heap.size w1 w2:=by rw [hw2];exact (Below.refl _ _).alloc (Nat.le_refl _) _
 have hl2:Blk w2 w1.heap.size 9 (strsL kw_steps).toArray:=by rw [hw2];exact Blk.new w1 _ _
 have K2:=Lib.hid (K1.out.kept hb2)
 have HCH:=Lib.hid (choice_any K2.out.rs hl2 (by decide))
 have HW2:=Lib.hid hw2
 clear hw1 f1 hb2 hl2 hone hW0 hth
 go_wp2_with fail
 rw [show w1.alloc (.cells #[.string ⟨#[119,104,101,114,101]⟩,.string ⟨#[107,101,101,112]⟩,.string ⟨#[97,108,105,103,110]⟩,.string ⟨#[103,114,111,117,112]⟩,.string ⟨#[116,111,112]⟩,.string ⟨#[106,111,105,110]⟩,.string ⟨#[117,110,105,111,110]⟩] 9)=w2 from HW2.out.symm]
 clear hw2
 refine HCH.out.mono ?_
 rintro e w3 ⟨rfl,h3,m3⟩
 have hck:=choice_le kw_steps 1 ts (by decide)
 rcases hch:choice kw_steps 1 ts with ⟨k,ts1⟩
 rw [hch] at h3 hck
 dsimp only at h3 hck
 dsimp only
 have K3:=Lib.hid (K2.out.moveM h3 m3)
 have HK:=Lib.hid hch
 have hlen:=(choice_len hch).2
 clear h3 m3 hch
 go_upto_block 0 with fail
 go_cut [] (fun wx=>StepR base r tv T deep nv W (stepOf inner cond rows ts ns) wx)
 case first =>
  have e0:w3.cell? ⟨W.heap.size+1,0,none⟩=some (.int .i64 0):=K3.out.xb.cell 0
  have e1:w3.cell? ⟨W.heap.size+1,1,none⟩=some (.string ⟨#[]⟩):=K3.out.xb.cell 1
  have e2:w3.cell? ⟨W.heap.size+1,2,none⟩=some (.int .i64 0):=K3.out.xb.cell 2
  have f0:=K3.out.xb.free 0
  have f1:=K3.out.xb.free 1
  have f2:=K3.out.xb.free 2
  match k,HK,hck,hlen with
  | 0,HK,hck,hlen =>
    have HE:=Lib.hid (s0_err (inner:=inner) (cond:=cond) (rows:=rows) (ns:=ns) HK.out)
    have hz:ts1=ts:=choice_zero (by decide) HK.out
    subst hz
    have HF:=Lib.hid (fail_any K3.out.rs)
    go_wp2_with fail
    refine HF.out.mono ?_
    rintro e w4 ⟨rfl,rfl⟩
    unfold Bad
    go_wp2_with fail
    exact ⟨rfl,by rw [HE.out];exact ⟨rfl,nv,K3.out.st⟩⟩
  | 1,HK,hck,hlen =>
    have k4:=K3.out.put (m2:=stepM 2 [] 0 [rows] [] [] (L1 W) (.slice none 0 0) (.slice none 0 0)) 0 (.int .i64 2) rfl
    have c16:=k4.xb.cell 16
    have HD:=Lib.hid (k4.kept ((Below.refl _ _).drew))
    have HCC:=Lib.hid (HC.out.1 _ _ _ _ _ _ _ _ HD.out.rs (Nat.le_trans hbase HD.out.st.size) (by omega))
    have hcost:=HC.out.2 ts1 ns
    obtain ⟨i0,hi0,hz0,hz1,hz2⟩:=info_parts infoInt
    clear k4 e1 e2 f1 f2
    go_wp2_with fail
    rw [show (#[{dst:=some 17,op:=Op.fieldAddr 42 (Operand.tmp 5) 6,type:=0,pos := "parse.go:146",after:=#[],guard:=none},{dst:=some 18,op:=Op.load 38 (Operand.tmp 17),type:=38,pos := "parse.go:146",after:=#[⟨0,.data⟩],guard:=none},{dst:=some 19,op:=Op.move (Operand.tmp 0),type:=112,pos := "parse.go:146",after:=#[],guard:=none},{dst:=some 20,op:=Op.call {callee:=Callee.value (Operand.func 144),args:=#[Operand.tmp 19],argTypes:=#[112]},type:=3,pos := "parse.go:146",after:=#[⟨2,.data⟩],guard:=none},{dst:=some 21,op:=Op.buildSlice 38 1 #[(0,Operand.tmp 20)],type:=38,pos := "parse.go:146",after:=#[⟨3,.data⟩],guard:=none},{dst:=some 22,op:=Op.call {callee:=Callee.builtin Go.Builtin.append,args:=#[Operand.tmp 18,Operand.tmp 21],argTypes:=#[38,38]},type:=38,pos := "parse.go:146",after:=#[⟨1,.data⟩,⟨4,.data⟩,⟨3,.chain⟩],guard:=none},{dst:=some 23,op:=Op.fieldAddr 42 (Operand.tmp 5) 6,type:=0,pos := "parse.go:146",after:=#[⟨0,.phase⟩,⟨1,.phase⟩,⟨2,.phase⟩,⟨3,.phase⟩,⟨4,.phase⟩,⟨5,.phase⟩],guard:=none},{dst:=none,op:=Op.store 38 (Operand.tmp 23) (Operand.tmp 22),type:=0,pos := "parse.go:146",after:=#[⟨6,.data⟩,⟨5,.data⟩,⟨5,.chain⟩,⟨0,.phase⟩,⟨1,.phase⟩,⟨2,.phase⟩,⟨3,.phase⟩,⟨4,.phase⟩,⟨5,.phase⟩],guard:=none}]:Array Oper)=Array.push #[{dst:=some 17,op:=Op.fieldAddr 42 (Operand.tmp 5) 6,type:=0,pos := "parse.go:146",after:=#[],guard:=none},{dst:=some 18,op:=Op.load 38 (Operand.tmp 17),type:=38,pos := "parse.go:146",after:=#[⟨0,.data⟩],guard:=none},{dst:=some 19,op:=Op.move (Operand.tmp 0),type:=112,pos := "parse.go:146",after:=#[],guard:=none},{dst:=some 20,op:=Op.call {callee:=Callee.value (Operand.func 144),args:=#[Operand.tmp 19],argTypes:=#[112]},type:=3,pos := "parse.go:146",after:=#[⟨2,.data⟩],guard:=none},{dst:=some 21,op:=Op.buildSlice 38 1 #[(0,Operand.tmp 20)],type:=38,pos := "parse.go:146",after:=#[⟨3,.data⟩],guard:=none},{dst:=some 22,op:=Op.call {callee:=Callee.builtin Go.Builtin.append,args:=#[Operand.tmp 18,Operand.tmp 21],argTypes:=#[38,38]},type:=38,pos := "parse.go:146",after:=#[⟨1,.data⟩,⟨4,.data⟩,⟨3,.chain⟩],guard:=none},{dst:=some 23,op:=Op.fieldAddr 42 (Operand.tmp 5) 6,type:=0,pos := "parse.go:146",after:=#[⟨0,.phase⟩,⟨1,.phase⟩,⟨2,.phase⟩,⟨3,.phase⟩,⟨4,.phase⟩,⟨5,.phase⟩],guard:=none}] {dst:=none,op:=Op.store 38 (Operand.tmp 23) (Operand.tmp 22),type:=0,pos := "parse.go:146",after:=#[⟨6,.data⟩,⟨5,.data⟩,⟨5,.chain⟩,⟨0,.phase⟩,⟨1,.phase⟩,⟨2,.phase⟩,⟨3,.phase⟩,⟨4,.phase⟩,⟨5,.phase⟩],guard:=none} from rfl]
    refine wp_region_last (S:=fun w'=>w'.cell? ⟨W.heap.size+1,16,none⟩=some (L1 W)) (by kernel_rfl) (by kernel_rfl) c16 (fun hHeld=>?_)
    refine wpAnyH_take (i:=0) (oi:={dst:=some 17,op:=Op.fieldAddr 42 (Operand.tmp 5) 6,type:=0,pos := "parse.go:146",after:=#[],guard:=none}) (v := ?v61) rfl (by kernel_rfl) (by kernel_rfl) (by kernel_rfl) (fun _ _ _ h=>h) (Or.inl ⟨by rfl,?hy61⟩) (by assumption) ?rest61
    case hy61 =>
     intro w hSw
     (try dsimp only at hSw)
     go_simp
     try with_reducible rfl
    try simp only [Act.put,List.setIfInBounds_toArray,List.set_cons_zero,List.set_cons_succ]
    refine wpAnyH_take (i:=1) (oi:={dst:=some 18,op:=Op.load 38 (Operand.tmp 17),type:=38,pos := "parse.go:146",after:=#[⟨0,.data⟩],guard:=none}) (v := ?v62) rfl (by kernel_rfl) (by kernel_rfl) (by kernel_rfl) (fun _ _ _ h=>h) (Or.inl ⟨by rfl,?hy62⟩) (by assumption) ?rest62
    case hy62 =>
     intro w hSw
     (try dsimp only at hSw)
     go_simp
     try with_reducible rfl
    try simp only [Act.put,List.setIfInBounds_toArray,List.set_cons_zero,List.set_cons_succ]
    refine wpAnyH_take (i:=2) (oi:={dst:=some 19,op:=Op.move (Operand.tmp 0),type:=112,pos := "parse.go:146",after:=#[],guard:=none}) (v := ?v63) rfl (by kernel_rfl) (by kernel_rfl) (by kernel_rfl) (fun _ _ _ h=>h) (Or.inl ⟨by rfl,?hy63⟩) (by assumption) ?rest63
    case hy63 =>
     intro w hSw
     (try dsimp only at hSw)
     go_simp
     try with_reducible rfl
    try simp only [Act.put,List.setIfInBounds_toArray,List.set_cons_zero,List.set_cons_succ]
    refine wpAnyH_ready (rs:=[3]) (by kernel_rfl) (by simp) ?_
    refine AllReadyH.cons (o:={dst:=some 20,op:=Op.call {callee:=Callee.value (Operand.func 144),args:=#[Operand.tmp 19],argTypes:=#[112]},type:=3,pos := "parse.go:146",after:=#[⟨2,.data⟩],guard:=none}) rfl (fun K hK=>?_) ?_
    ·go_simp
     go_at_call 144
     (with_reducible refine HCC.out.mono ?_)
     rintro e w5 hp
     rcases hi:cond ts1 ns with ⟨kk,long⟩ | ⟨c,ts2,ns2⟩
     ·rw [hi] at hp
      obtain ⟨rfl,nv5,s5⟩:=hp
      have HE:=Lib.hid (s1_err (inner:=inner) (cond:=cond) (rows:=rows) HK.out hi)
      have M5:=Lib.hid (HD.out.st.trans s5)
      clear hi s5
      unfold Bad
      exact ⟨rfl,by rw [HE.out];exact ⟨rfl,_,M5.out⟩⟩
     rw [hi] at hp
     have hc5:=hcost _ _ _ hi
     obtain ⟨nv5,rfl,h5,s5⟩:=hp
     have HE:=Lib.hid (s1_ok (inner:=inner) (cond:=cond) (rows:=rows) HK.out hi)
     have K5:=Lib.hid (HD.out.move h5 s5)
     have HB:=Lib.hid ((Below.refl w5.heap.size w5).alloc (Nat.le_refl _) (.cells #[.int .i64 (c:Int)] 3))
     have HNW:=Lib.hid (blk_cells (Blk.new w5 3 #[.int .i64 (c:Int)]))
     have g0:=K5.out.xb.cell 16
     have K6:=Lib.hid (K5.out.kept HB.out)
     clear hi h5 s5
     refine hK.out _ _ ?_ (fun hHeld=>?_)
     ·exact g0
     ·clear hK K
      try simp only [Act.put,List.setIfInBounds_toArray,List.set_cons_zero,List.set_cons_succ]
      refine wpAnyH_ready (rs:=[4]) (by kernel_rfl) (by simp) ?_
      refine AllReadyH.cons (o:={dst:=some 21,op:=Op.buildSlice 38 1 #[(0,Operand.tmp 20)],type:=38,pos := "parse.go:146",after:=#[⟨3,.data⟩],guard:=none}) rfl (fun K hK=>?_) ?_
      ·go_simp
       refine hK.out _ _ ?_ (fun hHeld=>?_)
       ·exact K6.out.xb.cell 16
       ·clear hK K
        try simp only [Act.put,List.setIfInBounds_toArray,List.set_cons_zero,List.set_cons_succ]
        refine wpAnyH_ready (rs:=[5]) (by kernel_rfl) (by simp) ?_
        refine AllReadyH.cons (o:={dst:=some 22,op:=Op.call {callee:=Callee.builtin Go.Builtin.append,args:=#[Operand.tmp 18,Operand.tmp 21],argTypes:=#[38,38]},type:=38,pos := "parse.go:146",after:=#[⟨1,.data⟩,⟨4,.data⟩,⟨3,.chain⟩],guard:=none}) rfl (fun K hK=>?_) ?_
        ·refine step_append_grows (by rfl) _ _ _ (by rfl) 3 i0 _ 1 8 (by kernel_rfl) hi0 hz0 hz1 hz2 (by rfl) (by decide) (some ⟨W.heap.size,0,none⟩) 1 1 [.int .i64 (rows:Int)] (by rfl) (by intro h;cases h) (by rfl) (by rintro b h;cases h;exact blk_cells K6.out.l0) ⟨w5.heap.size,0,none⟩ 1 1 [.int .i64 (c:Int)] (by rfl) (by rfl) HNW.out (by simp [Value.oneCell']) (by decide) (by unfold maxLen;omega) (by omega) ?_
         intro v7 w7 ho hg
         have hb7:=append_none hg
         have k7:=K6.out.kept hb7
         obtain ⟨g,cap,rfl⟩:=row_one ho (by decide)
         have ho2:w7.ownsRow base 3 1 (.slice (some ⟨g,0,none⟩) 2 cap) 2 (intsL [rows,c]):=own_base ho (Nat.le_trans hbase K6.out.st.size)
         have e0:w7.cell? ⟨W.heap.size+1,16,none⟩=some (L1 W):=k7.xb.cell 16
         have f0:w7.frozen? ⟨W.heap.size+1,16,none⟩=false:=k7.xb.free 16
         have k8:=k7.put (m2:=stepM 2 [] 0 [rows,c] [] [] (.slice (some ⟨g,0,none⟩) 2 cap) (.slice none 0 0) (.slice none 0 0)) 16 (.slice (some ⟨g,0,none⟩) 2 cap) rfl
         have HF:=Lib.hid (And.intro k8 (row_far ho2 k7.xb (by decide) 16 (.slice (some ⟨g,0,none⟩) 2 cap)))
         clear ho hg hb7 k7 ho2 k8
         refine hK.out _ _ ?_ (fun hHeld=>?_)
         ·exact e0
         ·clear hK K
          try simp only [Act.put,List.setIfInBounds_toArray,List.set_cons_zero,List.set_cons_succ]
          refine wpAnyH_take (i:=6) (oi:={dst:=some 23,op:=Op.fieldAddr 42 (Operand.tmp 5) 6,type:=0,pos := "parse.go:146",after:=#[⟨0,.phase⟩,⟨1,.phase⟩,⟨2,.phase⟩,⟨3,.phase⟩,⟨4,.phase⟩,⟨5,.phase⟩],guard:=none}) (v := ?v64) rfl (by kernel_rfl) (by kernel_rfl) (by kernel_rfl) (fun _ _ _ h=>h) (Or.inl ⟨by rfl,?hy64⟩) (by assumption) ?rest64
          case hy64 =>
           intro w hSw
           (try dsimp only at hSw)
           go_simp
           try with_reducible rfl
          try simp only [Act.put,List.setIfInBounds_toArray,List.set_cons_zero,List.set_cons_succ]
          refine wpAnyH_done (by kernel_rfl) ?_ _
          refine then_step (fun K hK=>?_)
          go_simp
          refine hK.out _ _ ?_
          clear hK K
          go_wp2_with fail
          go_meet
          exact ⟨stepM 2 [] 0 [rows,c] [] [] (.slice (some ⟨g,0,none⟩) 2 cap) (.slice none 0 0) (.slice none 0 0),ts2,ns2,nv5,HE.out,HF.out.1.rs,HF.out.1.st,HF.out.1.xb,⟨HF.out.2,nil_row,nil_row⟩,by omega⟩
        exact AllReadyH.nil
      exact AllReadyH.nil
    exact AllReadyH.nil
  | 2,HK,hck,hlen =>
    have HN:=Lib.hid (names_any K3.out.rs)
    go_wp2_with fail
    refine HN.out.mono ?_
    rintro e w4 hp
    rcases hi:names ts1 ns with ⟨kk,long⟩ | ⟨l,ts2,ns2⟩
    ·rw [hi] at hp
     obtain ⟨rfl,m4⟩:=hp
     have HE:=Lib.hid (s2_err (inner:=inner) (cond:=cond) (rows:=rows) HK.out hi)
     have M4:=Lib.hid (K3.out.st.trans (Mv.stp m4 nv))
     clear hi m4
     unfold Bad
     go_wp2_with fail
     exact ⟨rfl,by rw [HE.out];exact ⟨rfl,nv,M4.out⟩⟩
    ·rw [hi] at hp
     obtain ⟨lv,rfl,hrow,h4,m4⟩:=hp
     obtain ⟨lo,lc,rfl⟩:=row_slice hrow
     have hns:ns2=ns:=still_many still_name _ _ _ _ _ hi
     subst hns
     have HE:=Lib.hid (s2_ok (inner:=inner) (cond:=cond) (rows:=rows) HK.out hi)
     have hcost:=cost_names _ _ _ _ _ hi
     have k4:=K3.out.moveM h4 m4
     have e0:w4.cell? ⟨W.heap.size+1,0,none⟩=some (.int .i64 0):=k4.xb.cell 0
     have e17:w4.cell? ⟨W.heap.size+1,17,none⟩=some (.slice none 0 0):=k4.xb.cell 17
     have f0:=k4.xb.free 0
     have f17:=k4.xb.free 17
     have k5:=k4.put (m2:=stepM 3 [] 0 [rows] [] [] (L1 W) (.slice none 0 0) (.slice none 0 0)) 0 (.int .i64 3) rfl
     have k6:=k5.put (m2:=stepM 3 [] 0 [rows] l [] (L1 W) (Value.slice lo l.length lc) (.slice none 0 0)) 17 (Value.slice lo l.length lc) rfl
     have r6:=row_far (row_far hrow k4.xb (by decide) 0 (.int .i64 3)) k5.xb (by decide) 17 (Value.slice lo l.length lc)
     have K6:=Lib.hid (And.intro k6 (own_base r6 (Nat.le_trans hbase (Nat.le_trans (Nat.le_of_lt (Nat.lt_of_lt_of_le (Nat.lt_succ_self _) (Nat.le_of_lt K3.out.xb.lt))) (Nat.le_refl _)))))
     clear hi hrow h4 m4 k4 k5 k6 r6
     go_wp2_with fail
     go_meet
     exact ⟨stepM 3 [] 0 [rows] l [] (L1 W) (Value.slice lo l.length lc) (.slice none 0 0),ts2,ns2,nv,HE.out,K6.out.1.rs,K6.out.1.st,K6.out.1.xb,⟨K6.out.1.one hbase,K6.out.2,nil_row⟩,by omega⟩
  | 3,HK,hck,hlen =>
    rcases take_cases 2 ts1 with ⟨t,ts2,ht,hk⟩ | hk
    ·have HN:=Lib.hid (number_yes K3.out.rs ht hk)
     have HE:=Lib.hid (s3_ok (inner:=inner) (cond:=cond) (rows:=rows) (ns:=ns) HK.out ht hk)
     clear ht hk
     go_wp2_with fail
     refine HN.out.mono ?_
     rintro e w4 ⟨rfl,h4,m4⟩
     have k4:=K3.out.moveM h4 m4
     have e0:w4.cell? ⟨W.heap.size+1,0,none⟩=some (.int .i64 0):=k4.xb.cell 0
     have e2:w4.cell? ⟨W.heap.size+1,2,none⟩=some (.int .i64 0):=k4.xb.cell 2
     have f0:=k4.xb.free 0
     have f2:=k4.xb.free 2
     have k5:=k4.put (m2:=stepM 4 [] 0 [rows] [] [] (L1 W) (.slice none 0 0) (.slice none 0 0)) 0 (.int .i64 4) rfl
     have K6:=Lib.hid (k5.put (m2:=stepM 4 [] t.n [rows] [] [] (L1 W) (.slice none 0 0) (.slice none 0 0)) 2 (.int .i64 t.n) rfl)
     clear h4 m4 k4 k5
     go_wp2_with fail
     go_meet
     exact ⟨stepM 4 [] t.n [rows] [] [] (L1 W) (.slice none 0 0) (.slice none 0 0),ts2,ns,nv,HE.out,K6.out.rs,K6.out.st,K6.out.xb,⟨K6.out.one hbase,nil_row,nil_row⟩,by omega⟩
    ·have HN:=Lib.hid (number_no K3.out.rs hk)
     have HE:=Lib.hid (s3_err (inner:=inner) (cond:=cond) (rows:=rows) (ns:=ns) HK.out hk)
     clear hk
     go_wp2_with fail
     refine HN.out.mono ?_
     rintro e w4 ⟨rfl,m4⟩
     have M4:=Lib.hid (K3.out.st.trans (Mv.stp m4 nv))
     clear m4
     unfold Bad
     go_wp2_with fail
     exact ⟨rfl,by rw [HE.out];exact ⟨rfl,nv,M4.out⟩⟩
  | 4,HK,hck,hlen =>
    have k4:=K3.out.put (m2:=stepM 5 [] 0 [rows] [] [] (L1 W) (.slice none 0 0) (.slice none 0 0)) 0 (.int .i64 5) rfl
    have K4:=Lib.hid k4
    have HIS:=Lib.hid (is_any kw_colon k4.rs)
    clear k4
    rcases hg:sees kw_colon ts1 with _ | tz
    ·have HQ:=Lib.hid (isS_none hg)
     have HGE:=Lib.hid (show gnames ts1 ns=names ts1 ns by unfold gnames;rw [hg])
     clear hg
     go_wp2_with fail
     refine HIS.out.mono ?_
     rintro e w5 ⟨rfl,b5⟩
     rw [HQ.out]
     have K5:=Lib.hid (K4.out.kept b5)
     have HSZ5:=Lib.hid b5.size
     have HN:=Lib.hid (names_any K5.out.rs)
     clear b5 e0 e1 e2 f0 f1 f2
     go_wp2_with fail
     refine HN.out.mono ?_
     rintro e w6 hp
     rcases hi:names ts1 ns with ⟨kk,long⟩ | ⟨l,ts2,ns2⟩
     ·rw [hi] at hp
      obtain ⟨rfl,m6⟩:=hp
      have HE:=Lib.hid (s4_err1 (inner:=inner) (cond:=cond) (rows:=rows) HK.out (HGE.out.trans hi))
      have M6:=Lib.hid (K5.out.st.trans (Mv.stp m6 nv))
      clear hi m6
      unfold Bad
      go_wp2_with fail
      exact ⟨rfl,by rw [HE.out];exact ⟨rfl,nv,M6.out⟩⟩
     ·rw [hi] at hp
      obtain ⟨lv,rfl,hrow,h6,m6⟩:=hp
      obtain ⟨lo,lc,rfl⟩:=row_slice hrow
      have hns:ns2=ns:=still_many still_name _ _ _ _ _ hi
      subst hns
      have HG:=Lib.hid (HGE.out.trans hi)
      have k6:=K5.out.moveM h6 m6
      have e17:w6.cell? ⟨W.heap.size+1,17,none⟩=some (.slice none 0 0):=k6.xb.cell 17
      have f17:=k6.xb.free 17
      have R6:=Lib.hid (row_far (own_base (b':=w3.heap.size) hrow (by have h9:=HSZ5.out;simpa [World.setCell] using h9)) k6.xb (by decide) 17 (Value.slice lo l.length lc))
      have K6:=Lib.hid (k6.put (m2:=stepM 5 [] 0 [rows] l [] (L1 W) (Value.slice lo l.length lc) (.slice none 0 0)) 17 (Value.slice lo l.length lc) rfl)
      clear hi hrow h6 m6 k6
      rcases hs:sees kw_colon ts2 with _ | ts3
      ·have HS:=Lib.hid (wants_no K6.out.rs hs)
       have HE:=Lib.hid (s4_err2 (inner:=inner) (cond:=cond) (rows:=rows) HK.out HG.out hs)
       clear hs
       go_wp2_with fail
       refine HS.out.mono ?_
       rintro e w7 ⟨rfl,m7⟩
       have M7:=Lib.hid (K6.out.st.trans (Mv.stp m7 nv))
       clear m7
       unfold Bad
       go_wp2_with fail
       exact ⟨rfl,by rw [HE.out];exact ⟨rfl,nv,M7.out⟩⟩
      ·have HS:=Lib.hid (wants_yes K6.out.rs hs)
       have HSE:=Lib.hid hs
       clear hs
       go_wp2_with fail
       refine HS.out.mono ?_
       rintro e w7 ⟨rfl,h7,m7⟩
       have K7:=Lib.hid (K6.out.moveM h7 m7)
       have R7:=Lib.hid (row_mv R6.out m7 (fun e=>by have:=(R6.out.lt _ e).1;have:=K3.out.rs.box.lt;omega))
       have HA:=Lib.hid (aggs_any K7.out.rs)
       clear h7 m7
       go_wp2_with fail
       refine HA.out.mono ?_
       rintro e w8 hp
       rcases hi2:aggs ts3 ns2 with ⟨kk,long⟩ | ⟨ag,ts4,ns4⟩
       ·rw [hi2] at hp
        obtain ⟨rfl,m8⟩:=hp
        have HE:=Lib.hid (s4_err3 (inner:=inner) (cond:=cond) (rows:=rows) HK.out HG.out HSE.out hi2)
        have M8:=Lib.hid (K7.out.st.trans (Mv.stp m8 nv))
        clear hi2 m8
        unfold Bad
        go_wp2_with fail
        exact ⟨rfl,by rw [HE.out];exact ⟨rfl,nv,M8.out⟩⟩
       ·rw [hi2] at hp
        obtain ⟨av,rfl,hrow,h8,m8⟩:=hp
        obtain ⟨ao,ac,rfl⟩:=row_slice hrow
        have hns:ns4=ns2:=still_many still_agg _ _ _ _ _ hi2
        subst hns
        have HE:=Lib.hid (s4_ok (inner:=inner) (cond:=cond) (rows:=rows) HK.out HG.out HSE.out hi2)
        have k8:=K7.out.moveM h8 m8
        have e18:w8.cell? ⟨W.heap.size+1,18,none⟩=some (.slice none 0 0):=k8.xb.cell 18
        have f18:=k8.xb.free 18
        have k9:=k8.put (m2:=stepM 5 [] 0 [rows] l ag (L1 W) (Value.slice lo l.length lc) (Value.slice ao ag.length ac)) 18 (Value.slice ao ag.length ac) rfl
        have r9:=own_base (b':=base) (row_far hrow k8.xb (by decide) 18 (Value.slice ao ag.length ac)) (Nat.le_trans hbase K7.out.st.size)
        have n9:=own_base (b':=base) (row_far (row_mv R7.out m8 (fun e=>by have:=(R7.out.lt _ e).1;have:=K3.out.rs.box.lt;omega)) k8.xb (by decide) 18 (Value.slice ao ag.length ac)) (Nat.le_trans hbase K3.out.st.size)
        have K9:=Lib.hid (And.intro k9 (And.intro r9 n9))
        clear hi2 hrow h8 m8 k8 k9 r9 n9
        go_wp2_with fail
        go_meet
        exact ⟨stepM 5 [] 0 [rows] l ag (L1 W) (Value.slice lo l.length lc) (Value.slice ao ag.length ac),ts4,ns4,nv,HE.out,K9.out.1.rs,K9.out.1.st,K9.out.1.xb,⟨K9.out.1.one hbase,K9.out.2.2,K9.out.2.1⟩,by omega⟩
    ·have HQ:=Lib.hid (isS_some hg).1
     have HG:=Lib.hid (show gnames ts1 ns=.ok ([],ts1,ns) by unfold gnames;rw [hg])
     clear hg
     go_wp2_with fail
     refine HIS.out.mono ?_
     rintro e w5 ⟨rfl,b5⟩
     rw [HQ.out]
     have K5:=Lib.hid (K4.out.kept b5)
     clear b5 e0 e1 e2 f0 f1 f2
     rcases hs:sees kw_colon ts1 with _ | ts3
     ·have HS:=Lib.hid (wants_no K5.out.rs hs)
      have HE:=Lib.hid (s4_err2 (inner:=inner) (cond:=cond) (rows:=rows) HK.out HG.out hs)
      clear hs
      go_wp2_with fail
      refine HS.out.mono ?_
      rintro e w7 ⟨rfl,m7⟩
      have M7:=Lib.hid (K5.out.st.trans (Mv.stp m7 nv))
      clear m7
      unfold Bad
      go_wp2_with fail
      exact ⟨rfl,by rw [HE.out];exact ⟨rfl,nv,M7.out⟩⟩
     ·have HS:=Lib.hid (wants_yes K5.out.rs hs)
      have HSE:=Lib.hid hs
      clear hs
      go_wp2_with fail
      refine HS.out.mono ?_
      rintro e w7 ⟨rfl,h7,m7⟩
      have K7:=Lib.hid (K5.out.moveM h7 m7)
      skip
      have HA:=Lib.hid (aggs_any K7.out.rs)
      clear h7 m7
      go_wp2_with fail
      refine HA.out.mono ?_
      rintro e w8 hp
      rcases hi2:aggs ts3 ns with ⟨kk,long⟩ | ⟨ag,ts4,ns4⟩
      ·rw [hi2] at hp
       obtain ⟨rfl,m8⟩:=hp
       have HE:=Lib.hid (s4_err3 (inner:=inner) (cond:=cond) (rows:=rows) HK.out HG.out HSE.out hi2)
       have M8:=Lib.hid (K7.out.st.trans (Mv.stp m8 nv))
       clear hi2 m8
       unfold Bad
       go_wp2_with fail
       exact ⟨rfl,by rw [HE.out];exact ⟨rfl,nv,M8.out⟩⟩
      ·rw [hi2] at hp
       obtain ⟨av,rfl,hrow,h8,m8⟩:=hp
       obtain ⟨ao,ac,rfl⟩:=row_slice hrow
       have hns:ns4=ns:=still_many still_agg _ _ _ _ _ hi2
       subst hns
       have HE:=Lib.hid (s4_ok (inner:=inner) (cond:=cond) (rows:=rows) HK.out HG.out HSE.out hi2)
       have k8:=K7.out.moveM h8 m8
       have e18:w8.cell? ⟨W.heap.size+1,18,none⟩=some (.slice none 0 0):=k8.xb.cell 18
       have f18:=k8.xb.free 18
       have k9:=k8.put (m2:=stepM 5 [] 0 [rows] [] ag (L1 W) (.slice none 0 0) (Value.slice ao ag.length ac)) 18 (Value.slice ao ag.length ac) rfl
       have r9:=own_base (b':=base) (row_far hrow k8.xb (by decide) 18 (Value.slice ao ag.length ac)) (Nat.le_trans hbase K7.out.st.size)
       have n9:(w8.setCell ⟨W.heap.size+1,18,none⟩ (Value.slice ao ag.length ac)).ownsRow base 9 1 (.slice none 0 0) 0 []:=nil_row
       have K9:=Lib.hid (And.intro k9 (And.intro r9 n9))
       clear hi2 hrow h8 m8 k8 k9 r9 n9
       go_wp2_with fail
       go_meet
       exact ⟨stepM 5 [] 0 [rows] [] ag (L1 W) (.slice none 0 0) (Value.slice ao ag.length ac),ts4,ns4,nv,HE.out,K9.out.1.rs,K9.out.1.st,K9.out.1.xb,⟨K9.out.1.one hbase,K9.out.2.2,K9.out.2.1⟩,by omega⟩
  | 5,HK,hck,hlen =>
    rcases take_cases 2 ts1 with ⟨t,ts2,ht,hk⟩ | hk
    ·have HN:=Lib.hid (number_yes K3.out.rs ht hk)
     have HT:=Lib.hid (And.intro ht hk)
     clear ht hk
     go_wp2_with fail
     refine HN.out.mono ?_
     rintro e w4 ⟨rfl,h4,m4⟩
     have k4:=K3.out.moveM h4 m4
     have e0:w4.cell? ⟨W.heap.size+1,0,none⟩=some (.int .i64 0):=k4.xb.cell 0
     have e2:w4.cell? ⟨W.heap.size+1,2,none⟩=some (.int .i64 0):=k4.xb.cell 2
     have f0:=k4.xb.free 0
     have f2:=k4.xb.free 2
     have k5:=k4.put (m2:=stepM 6 [] 0 [rows] [] [] (L1 W) (.slice none 0 0) (.slice none 0 0)) 0 (.int .i64 6) rfl
     have K6:=Lib.hid (k5.put (m2:=stepM 6 [] t.n [rows] [] [] (L1 W) (.slice none 0 0) (.slice none 0 0)) 2 (.int .i64 t.n) rfl)
     clear h4 m4 k4 k5 e1 f1
     rcases hs:sees kw_by ts2 with _ | ts3
     ·have HS:=Lib.hid (wants_no K6.out.rs hs)
      have HE:=Lib.hid (s5_err2 (inner:=inner) (cond:=cond) (rows:=rows) (ns:=ns) HK.out HT.out.1 HT.out.2 hs)
      clear hs
      go_wp2_with fail
      refine HS.out.mono ?_
      rintro e w7 ⟨rfl,m7⟩
      have M7:=Lib.hid (K6.out.st.trans (Mv.stp m7 nv))
      clear m7
      unfold Bad
      go_wp2_with fail
      exact ⟨rfl,by rw [HE.out];exact ⟨rfl,nv,M7.out⟩⟩
     ·have HS:=Lib.hid (wants_yes K6.out.rs hs)
      have HSE:=Lib.hid hs
      clear hs
      go_wp2_with fail
      refine HS.out.mono ?_
      rintro e w7 ⟨rfl,h7,m7⟩
      have K7:=Lib.hid (K6.out.moveM h7 m7)
      clear h7 m7
      rcases take_cases 1 ts3 with ⟨u,ts4,hu,hk⟩ | hk
      ·have HN2:=Lib.hid (word_yes K7.out.rs hu hk)
       have HE:=Lib.hid (s5_ok (inner:=inner) (cond:=cond) (rows:=rows) (ns:=ns) HK.out HT.out.1 HT.out.2 HSE.out hu hk)
       clear hu hk
       go_wp2_with fail
       refine HN2.out.mono ?_
       rintro e w8 ⟨rfl,h8,m8⟩
       have k8:=K7.out.moveM h8 m8
       have e1:w8.cell? ⟨W.heap.size+1,1,none⟩=some (.string ⟨#[]⟩):=k8.xb.cell 1
       have f1:=k8.xb.free 1
       have K9:=Lib.hid (k8.put (m2:=stepM 6 u.s t.n [rows] [] [] (L1 W) (.slice none 0 0) (.slice none 0 0)) 1 (.string (BA u.s)) rfl)
       clear h8 m8 k8
       go_wp2_with fail
       go_meet
       exact ⟨stepM 6 u.s t.n [rows] [] [] (L1 W) (.slice none 0 0) (.slice none 0 0),ts4,ns,nv,HE.out,K9.out.rs,K9.out.st,K9.out.xb,⟨K9.out.one hbase,nil_row,nil_row⟩,by omega⟩
      ·have HN2:=Lib.hid (word_no K7.out.rs hk)
       have HE:=Lib.hid (s5_err3 (inner:=inner) (cond:=cond) (rows:=rows) (ns:=ns) HK.out HT.out.1 HT.out.2 HSE.out hk)
       clear hk
       go_wp2_with fail
       refine HN2.out.mono ?_
       rintro e w8 ⟨rfl,m8⟩
       have M8:=Lib.hid (K7.out.st.trans (Mv.stp m8 nv))
       clear m8
       unfold Bad
       go_wp2_with fail
       exact ⟨rfl,by rw [HE.out];exact ⟨rfl,nv,M8.out⟩⟩
    ·have HN:=Lib.hid (number_no K3.out.rs hk)
     have HE:=Lib.hid (s5_err1 (inner:=inner) (cond:=cond) (rows:=rows) (ns:=ns) HK.out hk)
     clear hk
     go_wp2_with fail
     refine HN.out.mono ?_
     rintro e w4 ⟨rfl,m4⟩
     have M4:=Lib.hid (K3.out.st.trans (Mv.stp m4 nv))
     clear m4
     unfold Bad
     go_wp2_with fail
     exact ⟨rfl,by rw [HE.out];exact ⟨rfl,nv,M4.out⟩⟩
  | 6,HK,hck,hlen =>
    have k4:=K3.out.put (m2:=stepM 7 [] 0 [rows] [] [] (L1 W) (.slice none 0 0) (.slice none 0 0)) 0 (.int .i64 7) rfl
    have c16:=k4.xb.cell 16
    have HD:=Lib.hid (k4.kept ((Below.refl _ _).drew))
    have HCC:=Lib.hid (HI.out.1 _ _ _ _ _ _ _ _ HD.out.rs (Nat.le_trans hbase HD.out.st.size) (by omega))
    have hcost:=HI.out.2 ts1 ns
    obtain ⟨i0,hi0,hz0,hz1,hz2⟩:=info_parts infoInt
    clear k4 e1 e2 f1 f2
    go_wp2_with fail
    rw [show (#[{dst:=some 64,op:=Op.fieldAddr 42 (Operand.tmp 5) 6,type:=0,pos := "parse.go:164",after:=#[],guard:=none},{dst:=some 65,op:=Op.load 38 (Operand.tmp 64),type:=38,pos := "parse.go:164",after:=#[⟨0,.data⟩],guard:=none},{dst:=some 66,op:=Op.move (Operand.tmp 0),type:=112,pos := "parse.go:164",after:=#[],guard:=none},{dst:=some 67,op:=Op.call {callee:=Callee.value (Operand.func 147),args:=#[Operand.tmp 66],argTypes:=#[112]},type:=3,pos := "parse.go:164",after:=#[⟨2,.data⟩],guard:=none},{dst:=some 68,op:=Op.buildSlice 38 1 #[(0,Operand.tmp 67)],type:=38,pos := "parse.go:164",after:=#[⟨3,.data⟩],guard:=none},{dst:=some 69,op:=Op.call {callee:=Callee.builtin Go.Builtin.append,args:=#[Operand.tmp 65,Operand.tmp 68],argTypes:=#[38,38]},type:=38,pos := "parse.go:164",after:=#[⟨1,.data⟩,⟨4,.data⟩,⟨3,.chain⟩],guard:=none},{dst:=some 70,op:=Op.fieldAddr 42 (Operand.tmp 5) 6,type:=0,pos := "parse.go:164",after:=#[⟨0,.phase⟩,⟨1,.phase⟩,⟨2,.phase⟩,⟨3,.phase⟩,⟨4,.phase⟩,⟨5,.phase⟩],guard:=none},{dst:=none,op:=Op.store 38 (Operand.tmp 70) (Operand.tmp 69),type:=0,pos := "parse.go:164",after:=#[⟨6,.data⟩,⟨5,.data⟩,⟨5,.chain⟩,⟨0,.phase⟩,⟨1,.phase⟩,⟨2,.phase⟩,⟨3,.phase⟩,⟨4,.phase⟩,⟨5,.phase⟩],guard:=none}]:Array Oper)=Array.push #[{dst:=some 64,op:=Op.fieldAddr 42 (Operand.tmp 5) 6,type:=0,pos := "parse.go:164",after:=#[],guard:=none},{dst:=some 65,op:=Op.load 38 (Operand.tmp 64),type:=38,pos := "parse.go:164",after:=#[⟨0,.data⟩],guard:=none},{dst:=some 66,op:=Op.move (Operand.tmp 0),type:=112,pos := "parse.go:164",after:=#[],guard:=none},{dst:=some 67,op:=Op.call {callee:=Callee.value (Operand.func 147),args:=#[Operand.tmp 66],argTypes:=#[112]},type:=3,pos := "parse.go:164",after:=#[⟨2,.data⟩],guard:=none},{dst:=some 68,op:=Op.buildSlice 38 1 #[(0,Operand.tmp 67)],type:=38,pos := "parse.go:164",after:=#[⟨3,.data⟩],guard:=none},{dst:=some 69,op:=Op.call {callee:=Callee.builtin Go.Builtin.append,args:=#[Operand.tmp 65,Operand.tmp 68],argTypes:=#[38,38]},type:=38,pos := "parse.go:164",after:=#[⟨1,.data⟩,⟨4,.data⟩,⟨3,.chain⟩],guard:=none},{dst:=some 70,op:=Op.fieldAddr 42 (Operand.tmp 5) 6,type:=0,pos := "parse.go:164",after:=#[⟨0,.phase⟩,⟨1,.phase⟩,⟨2,.phase⟩,⟨3,.phase⟩,⟨4,.phase⟩,⟨5,.phase⟩],guard:=none}] {dst:=none,op:=Op.store 38 (Operand.tmp 70) (Operand.tmp 69),type:=0,pos := "parse.go:164",after:=#[⟨6,.data⟩,⟨5,.data⟩,⟨5,.chain⟩,⟨0,.phase⟩,⟨1,.phase⟩,⟨2,.phase⟩,⟨3,.phase⟩,⟨4,.phase⟩,⟨5,.phase⟩],guard:=none} from rfl]
    refine wp_region_last (S:=fun w'=>w'.cell? ⟨W.heap.size+1,16,none⟩=some (L1 W)) (by kernel_rfl) (by kernel_rfl) c16 (fun hHeld=>?_)
    refine wpAnyH_take (i:=0) (oi:={dst:=some 64,op:=Op.fieldAddr 42 (Operand.tmp 5) 6,type:=0,pos := "parse.go:164",after:=#[],guard:=none}) (v := ?v231) rfl (by kernel_rfl) (by kernel_rfl) (by kernel_rfl) (fun _ _ _ h=>h) (Or.inl ⟨by rfl,?hy231⟩) (by assumption) ?rest231
    case hy231 =>
     intro w hSw
     (try dsimp only at hSw)
     go_simp
     try with_reducible rfl
    try simp only [Act.put,List.setIfInBounds_toArray,List.set_cons_zero,List.set_cons_succ]
    refine wpAnyH_take (i:=1) (oi:={dst:=some 65,op:=Op.load 38 (Operand.tmp 64),type:=38,pos := "parse.go:164",after:=#[⟨0,.data⟩],guard:=none}) (v := ?v232) rfl (by kernel_rfl) (by kernel_rfl) (by kernel_rfl) (fun _ _ _ h=>h) (Or.inl ⟨by rfl,?hy232⟩) (by assumption) ?rest232
    case hy232 =>
     intro w hSw
     (try dsimp only at hSw)
     go_simp
     try with_reducible rfl
    try simp only [Act.put,List.setIfInBounds_toArray,List.set_cons_zero,List.set_cons_succ]
    refine wpAnyH_take (i:=2) (oi:={dst:=some 66,op:=Op.move (Operand.tmp 0),type:=112,pos := "parse.go:164",after:=#[],guard:=none}) (v := ?v233) rfl (by kernel_rfl) (by kernel_rfl) (by kernel_rfl) (fun _ _ _ h=>h) (Or.inl ⟨by rfl,?hy233⟩) (by assumption) ?rest233
    case hy233 =>
     intro w hSw
     (try dsimp only at hSw)
     go_simp
     try with_reducible rfl
    try simp only [Act.put,List.setIfInBounds_toArray,List.set_cons_zero,List.set_cons_succ]
    refine wpAnyH_ready (rs:=[3]) (by kernel_rfl) (by simp) ?_
    refine AllReadyH.cons (o:={dst:=some 67,op:=Op.call {callee:=Callee.value (Operand.func 147),args:=#[Operand.tmp 66],argTypes:=#[112]},type:=3,pos := "parse.go:164",after:=#[⟨2,.data⟩],guard:=none}) rfl (fun K hK=>?_) ?_
    ·go_simp
     go_at_call 147
     (with_reducible refine HCC.out.mono ?_)
     rintro e w5 hp
     rcases hi:brk inner ts1 ns with ⟨kk,long⟩ | ⟨c,ts2,ns2⟩
     ·rw [hi] at hp
      obtain ⟨rfl,nv5,s5⟩:=hp
      have HE:=Lib.hid (s67_err (inner:=inner) (cond:=cond) (rows:=rows) (.inl rfl) HK.out hi)
      have M5:=Lib.hid (HD.out.st.trans s5)
      clear hi s5
      unfold Bad
      exact ⟨rfl,by rw [HE.out];exact ⟨rfl,_,M5.out⟩⟩
     rw [hi] at hp
     have hc5:=hcost _ _ _ hi
     obtain ⟨nv5,rfl,h5,s5⟩:=hp
     have HE:=Lib.hid (s6_ok (inner:=inner) (cond:=cond) (rows:=rows) HK.out hi)
     have K5:=Lib.hid (HD.out.move h5 s5)
     have HB:=Lib.hid ((Below.refl w5.heap.size w5).alloc (Nat.le_refl _) (.cells #[.int .i64 (c:Int)] 3))
     have HNW:=Lib.hid (blk_cells (Blk.new w5 3 #[.int .i64 (c:Int)]))
     have g0:=K5.out.xb.cell 16
     have K6:=Lib.hid (K5.out.kept HB.out)
     clear hi h5 s5
     refine hK.out _ _ ?_ (fun hHeld=>?_)
     ·exact g0
     ·clear hK K
      try simp only [Act.put,List.setIfInBounds_toArray,List.set_cons_zero,List.set_cons_succ]
      refine wpAnyH_ready (rs:=[4]) (by kernel_rfl) (by simp) ?_
      refine AllReadyH.cons (o:={dst:=some 68,op:=Op.buildSlice 38 1 #[(0,Operand.tmp 67)],type:=38,pos := "parse.go:164",after:=#[⟨3,.data⟩],guard:=none}) rfl (fun K hK=>?_) ?_
      ·go_simp
       refine hK.out _ _ ?_ (fun hHeld=>?_)
       ·exact K6.out.xb.cell 16
       ·clear hK K
        try simp only [Act.put,List.setIfInBounds_toArray,List.set_cons_zero,List.set_cons_succ]
        refine wpAnyH_ready (rs:=[5]) (by kernel_rfl) (by simp) ?_
        refine AllReadyH.cons (o:={dst:=some 69,op:=Op.call {callee:=Callee.builtin Go.Builtin.append,args:=#[Operand.tmp 65,Operand.tmp 68],argTypes:=#[38,38]},type:=38,pos := "parse.go:164",after:=#[⟨1,.data⟩,⟨4,.data⟩,⟨3,.chain⟩],guard:=none}) rfl (fun K hK=>?_) ?_
        ·refine step_append_grows (by rfl) _ _ _ (by rfl) 3 i0 _ 1 8 (by kernel_rfl) hi0 hz0 hz1 hz2 (by rfl) (by decide) (some ⟨W.heap.size,0,none⟩) 1 1 [.int .i64 (rows:Int)] (by rfl) (by intro h;cases h) (by rfl) (by rintro b h;cases h;exact blk_cells K6.out.l0) ⟨w5.heap.size,0,none⟩ 1 1 [.int .i64 (c:Int)] (by rfl) (by rfl) HNW.out (by simp [Value.oneCell']) (by decide) (by unfold maxLen;omega) (by omega) ?_
         intro v7 w7 ho hg
         have hb7:=append_none hg
         have k7:=K6.out.kept hb7
         obtain ⟨g,cap,rfl⟩:=row_one ho (by decide)
         have ho2:w7.ownsRow base 3 1 (.slice (some ⟨g,0,none⟩) 2 cap) 2 (intsL [rows,c]):=own_base ho (Nat.le_trans hbase K6.out.st.size)
         have e0:w7.cell? ⟨W.heap.size+1,16,none⟩=some (L1 W):=k7.xb.cell 16
         have f0:w7.frozen? ⟨W.heap.size+1,16,none⟩=false:=k7.xb.free 16
         have k8:=k7.put (m2:=stepM 7 [] 0 [rows,c] [] [] (.slice (some ⟨g,0,none⟩) 2 cap) (.slice none 0 0) (.slice none 0 0)) 16 (.slice (some ⟨g,0,none⟩) 2 cap) rfl
         have HF:=Lib.hid (And.intro k8 (row_far ho2 k7.xb (by decide) 16 (.slice (some ⟨g,0,none⟩) 2 cap)))
         clear ho hg hb7 k7 ho2 k8
         refine hK.out _ _ ?_ (fun hHeld=>?_)
         ·exact e0
         ·clear hK K
          try simp only [Act.put,List.setIfInBounds_toArray,List.set_cons_zero,List.set_cons_succ]
          refine wpAnyH_take (i:=6) (oi:={dst:=some 70,op:=Op.fieldAddr 42 (Operand.tmp 5) 6,type:=0,pos := "parse.go:164",after:=#[⟨0,.phase⟩,⟨1,.phase⟩,⟨2,.phase⟩,⟨3,.phase⟩,⟨4,.phase⟩,⟨5,.phase⟩],guard:=none}) (v := ?v234) rfl (by kernel_rfl) (by kernel_rfl) (by kernel_rfl) (fun _ _ _ h=>h) (Or.inl ⟨by rfl,?hy234⟩) (by assumption) ?rest234
          case hy234 =>
           intro w hSw
           (try dsimp only at hSw)
           go_simp
           try with_reducible rfl
          try simp only [Act.put,List.setIfInBounds_toArray,List.set_cons_zero,List.set_cons_succ]
          refine wpAnyH_done (by kernel_rfl) ?_ _
          refine then_step (fun K hK=>?_)
          go_simp
          refine hK.out _ _ ?_
          clear hK K
          go_wp2_with fail
          go_meet
          exact ⟨stepM 7 [] 0 [rows,c] [] [] (.slice (some ⟨g,0,none⟩) 2 cap) (.slice none 0 0) (.slice none 0 0),ts2,ns2,nv5,HE.out,HF.out.1.rs,HF.out.1.st,HF.out.1.xb,⟨HF.out.2,nil_row,nil_row⟩,by omega⟩
        exact AllReadyH.nil
      exact AllReadyH.nil
    exact AllReadyH.nil
  | 7,HK,hck,hlen =>
    have k4:=K3.out.put (m2:=stepM 8 [] 0 [rows] [] [] (L1 W) (.slice none 0 0) (.slice none 0 0)) 0 (.int .i64 8) rfl
    have c16:=k4.xb.cell 16
    have HD:=Lib.hid (k4.kept ((Below.refl _ _).drew))
    have HCC:=Lib.hid (HI.out.1 _ _ _ _ _ _ _ _ HD.out.rs (Nat.le_trans hbase HD.out.st.size) (by omega))
    have hcost:=HI.out.2 ts1 ns
    obtain ⟨i0,hi0,hz0,hz1,hz2⟩:=info_parts infoInt
    clear k4 e1 e2 f1 f2
    go_wp2_with fail
    rw [show (#[{dst:=some 74,op:=Op.fieldAddr 42 (Operand.tmp 5) 6,type:=0,pos := "parse.go:167",after:=#[],guard:=none},{dst:=some 75,op:=Op.load 38 (Operand.tmp 74),type:=38,pos := "parse.go:167",after:=#[⟨0,.data⟩],guard:=none},{dst:=some 76,op:=Op.move (Operand.tmp 0),type:=112,pos := "parse.go:167",after:=#[],guard:=none},{dst:=some 77,op:=Op.call {callee:=Callee.value (Operand.func 147),args:=#[Operand.tmp 76],argTypes:=#[112]},type:=3,pos := "parse.go:167",after:=#[⟨2,.data⟩],guard:=none},{dst:=some 78,op:=Op.buildSlice 38 1 #[(0,Operand.tmp 77)],type:=38,pos := "parse.go:167",after:=#[⟨3,.data⟩],guard:=none},{dst:=some 79,op:=Op.call {callee:=Callee.builtin Go.Builtin.append,args:=#[Operand.tmp 75,Operand.tmp 78],argTypes:=#[38,38]},type:=38,pos := "parse.go:167",after:=#[⟨1,.data⟩,⟨4,.data⟩,⟨3,.chain⟩],guard:=none},{dst:=some 80,op:=Op.fieldAddr 42 (Operand.tmp 5) 6,type:=0,pos := "parse.go:167",after:=#[⟨0,.phase⟩,⟨1,.phase⟩,⟨2,.phase⟩,⟨3,.phase⟩,⟨4,.phase⟩,⟨5,.phase⟩],guard:=none},{dst:=none,op:=Op.store 38 (Operand.tmp 80) (Operand.tmp 79),type:=0,pos := "parse.go:167",after:=#[⟨6,.data⟩,⟨5,.data⟩,⟨5,.chain⟩,⟨0,.phase⟩,⟨1,.phase⟩,⟨2,.phase⟩,⟨3,.phase⟩,⟨4,.phase⟩,⟨5,.phase⟩],guard:=none}]:Array Oper)=Array.push #[{dst:=some 74,op:=Op.fieldAddr 42 (Operand.tmp 5) 6,type:=0,pos := "parse.go:167",after:=#[],guard:=none},{dst:=some 75,op:=Op.load 38 (Operand.tmp 74),type:=38,pos := "parse.go:167",after:=#[⟨0,.data⟩],guard:=none},{dst:=some 76,op:=Op.move (Operand.tmp 0),type:=112,pos := "parse.go:167",after:=#[],guard:=none},{dst:=some 77,op:=Op.call {callee:=Callee.value (Operand.func 147),args:=#[Operand.tmp 76],argTypes:=#[112]},type:=3,pos := "parse.go:167",after:=#[⟨2,.data⟩],guard:=none},{dst:=some 78,op:=Op.buildSlice 38 1 #[(0,Operand.tmp 77)],type:=38,pos := "parse.go:167",after:=#[⟨3,.data⟩],guard:=none},{dst:=some 79,op:=Op.call {callee:=Callee.builtin Go.Builtin.append,args:=#[Operand.tmp 75,Operand.tmp 78],argTypes:=#[38,38]},type:=38,pos := "parse.go:167",after:=#[⟨1,.data⟩,⟨4,.data⟩,⟨3,.chain⟩],guard:=none},{dst:=some 80,op:=Op.fieldAddr 42 (Operand.tmp 5) 6,type:=0,pos := "parse.go:167",after:=#[⟨0,.phase⟩,⟨1,.phase⟩,⟨2,.phase⟩,⟨3,.phase⟩,⟨4,.phase⟩,⟨5,.phase⟩],guard:=none}] {dst:=none,op:=Op.store 38 (Operand.tmp 80) (Operand.tmp 79),type:=0,pos := "parse.go:167",after:=#[⟨6,.data⟩,⟨5,.data⟩,⟨5,.chain⟩,⟨0,.phase⟩,⟨1,.phase⟩,⟨2,.phase⟩,⟨3,.phase⟩,⟨4,.phase⟩,⟨5,.phase⟩],guard:=none} from rfl]
    refine wp_region_last (S:=fun w'=>w'.cell? ⟨W.heap.size+1,16,none⟩=some (L1 W)) (by kernel_rfl) (by kernel_rfl) c16 (fun hHeld=>?_)
    refine wpAnyH_take (i:=0) (oi:={dst:=some 74,op:=Op.fieldAddr 42 (Operand.tmp 5) 6,type:=0,pos := "parse.go:167",after:=#[],guard:=none}) (v := ?v261) rfl (by kernel_rfl) (by kernel_rfl) (by kernel_rfl) (fun _ _ _ h=>h) (Or.inl ⟨by rfl,?hy261⟩) (by assumption) ?rest261
    case hy261 =>
     intro w hSw
     (try dsimp only at hSw)
     go_simp
     try with_reducible rfl
    try simp only [Act.put,List.setIfInBounds_toArray,List.set_cons_zero,List.set_cons_succ]
    refine wpAnyH_take (i:=1) (oi:={dst:=some 75,op:=Op.load 38 (Operand.tmp 74),type:=38,pos := "parse.go:167",after:=#[⟨0,.data⟩],guard:=none}) (v := ?v262) rfl (by kernel_rfl) (by kernel_rfl) (by kernel_rfl) (fun _ _ _ h=>h) (Or.inl ⟨by rfl,?hy262⟩) (by assumption) ?rest262
    case hy262 =>
     intro w hSw
     (try dsimp only at hSw)
     go_simp
     try with_reducible rfl
    try simp only [Act.put,List.setIfInBounds_toArray,List.set_cons_zero,List.set_cons_succ]
    refine wpAnyH_take (i:=2) (oi:={dst:=some 76,op:=Op.move (Operand.tmp 0),type:=112,pos := "parse.go:167",after:=#[],guard:=none}) (v := ?v263) rfl (by kernel_rfl) (by kernel_rfl) (by kernel_rfl) (fun _ _ _ h=>h) (Or.inl ⟨by rfl,?hy263⟩) (by assumption) ?rest263
    case hy263 =>
     intro w hSw
     (try dsimp only at hSw)
     go_simp
     try with_reducible rfl
    try simp only [Act.put,List.setIfInBounds_toArray,List.set_cons_zero,List.set_cons_succ]
    refine wpAnyH_ready (rs:=[3]) (by kernel_rfl) (by simp) ?_
    refine AllReadyH.cons (o:={dst:=some 77,op:=Op.call {callee:=Callee.value (Operand.func 147),args:=#[Operand.tmp 76],argTypes:=#[112]},type:=3,pos := "parse.go:167",after:=#[⟨2,.data⟩],guard:=none}) rfl (fun K hK=>?_) ?_
    ·go_simp
     go_at_call 147
     (with_reducible refine HCC.out.mono ?_)
     rintro e w5 hp
     rcases hi:brk inner ts1 ns with ⟨kk,long⟩ | ⟨c,ts2,ns2⟩
     ·rw [hi] at hp
      obtain ⟨rfl,nv5,s5⟩:=hp
      have HE:=Lib.hid (s67_err (inner:=inner) (cond:=cond) (rows:=rows) (.inr rfl) HK.out hi)
      have M5:=Lib.hid (HD.out.st.trans s5)
      clear hi s5
      unfold Bad
      exact ⟨rfl,by rw [HE.out];exact ⟨rfl,_,M5.out⟩⟩
     rw [hi] at hp
     have hc5:=hcost _ _ _ hi
     obtain ⟨nv5,rfl,h5,s5⟩:=hp
     have HE:=Lib.hid (s7_ok (inner:=inner) (cond:=cond) (rows:=rows) HK.out hi)
     have K5:=Lib.hid (HD.out.move h5 s5)
     have HB:=Lib.hid ((Below.refl w5.heap.size w5).alloc (Nat.le_refl _) (.cells #[.int .i64 (c:Int)] 3))
     have HNW:=Lib.hid (blk_cells (Blk.new w5 3 #[.int .i64 (c:Int)]))
     have g0:=K5.out.xb.cell 16
     have K6:=Lib.hid (K5.out.kept HB.out)
     clear hi h5 s5
     refine hK.out _ _ ?_ (fun hHeld=>?_)
     ·exact g0
     ·clear hK K
      try simp only [Act.put,List.setIfInBounds_toArray,List.set_cons_zero,List.set_cons_succ]
      refine wpAnyH_ready (rs:=[4]) (by kernel_rfl) (by simp) ?_
      refine AllReadyH.cons (o:={dst:=some 78,op:=Op.buildSlice 38 1 #[(0,Operand.tmp 77)],type:=38,pos := "parse.go:167",after:=#[⟨3,.data⟩],guard:=none}) rfl (fun K hK=>?_) ?_
      ·go_simp
       refine hK.out _ _ ?_ (fun hHeld=>?_)
       ·exact K6.out.xb.cell 16
       ·clear hK K
        try simp only [Act.put,List.setIfInBounds_toArray,List.set_cons_zero,List.set_cons_succ]
        refine wpAnyH_ready (rs:=[5]) (by kernel_rfl) (by simp) ?_
        refine AllReadyH.cons (o:={dst:=some 79,op:=Op.call {callee:=Callee.builtin Go.Builtin.append,args:=#[Operand.tmp 75,Operand.tmp 78],argTypes:=#[38,38]},type:=38,pos := "parse.go:167",after:=#[⟨1,.data⟩,⟨4,.data⟩,⟨3,.chain⟩],guard:=none}) rfl (fun K hK=>?_) ?_
        ·refine step_append_grows (by rfl) _ _ _ (by rfl) 3 i0 _ 1 8 (by kernel_rfl) hi0 hz0 hz1 hz2 (by rfl) (by decide) (some ⟨W.heap.size,0,none⟩) 1 1 [.int .i64 (rows:Int)] (by rfl) (by intro h;cases h) (by rfl) (by rintro b h;cases h;exact blk_cells K6.out.l0) ⟨w5.heap.size,0,none⟩ 1 1 [.int .i64 (c:Int)] (by rfl) (by rfl) HNW.out (by simp [Value.oneCell']) (by decide) (by unfold maxLen;omega) (by omega) ?_
         intro v7 w7 ho hg
         have hb7:=append_none hg
         have k7:=K6.out.kept hb7
         obtain ⟨g,cap,rfl⟩:=row_one ho (by decide)
         have ho2:w7.ownsRow base 3 1 (.slice (some ⟨g,0,none⟩) 2 cap) 2 (intsL [rows,c]):=own_base ho (Nat.le_trans hbase K6.out.st.size)
         have e0:w7.cell? ⟨W.heap.size+1,16,none⟩=some (L1 W):=k7.xb.cell 16
         have f0:w7.frozen? ⟨W.heap.size+1,16,none⟩=false:=k7.xb.free 16
         have k8:=k7.put (m2:=stepM 8 [] 0 [rows,c] [] [] (.slice (some ⟨g,0,none⟩) 2 cap) (.slice none 0 0) (.slice none 0 0)) 16 (.slice (some ⟨g,0,none⟩) 2 cap) rfl
         have HF:=Lib.hid (And.intro k8 (row_far ho2 k7.xb (by decide) 16 (.slice (some ⟨g,0,none⟩) 2 cap)))
         clear ho hg hb7 k7 ho2 k8
         refine hK.out _ _ ?_ (fun hHeld=>?_)
         ·exact e0
         ·clear hK K
          try simp only [Act.put,List.setIfInBounds_toArray,List.set_cons_zero,List.set_cons_succ]
          refine wpAnyH_take (i:=6) (oi:={dst:=some 80,op:=Op.fieldAddr 42 (Operand.tmp 5) 6,type:=0,pos := "parse.go:167",after:=#[⟨0,.phase⟩,⟨1,.phase⟩,⟨2,.phase⟩,⟨3,.phase⟩,⟨4,.phase⟩,⟨5,.phase⟩],guard:=none}) (v := ?v264) rfl (by kernel_rfl) (by kernel_rfl) (by kernel_rfl) (fun _ _ _ h=>h) (Or.inl ⟨by rfl,?hy264⟩) (by assumption) ?rest264
          case hy264 =>
           intro w hSw
           (try dsimp only at hSw)
           go_simp
           try with_reducible rfl
          try simp only [Act.put,List.setIfInBounds_toArray,List.set_cons_zero,List.set_cons_succ]
          refine wpAnyH_done (by kernel_rfl) ?_ _
          refine then_step (fun K hK=>?_)
          go_simp
          refine hK.out _ _ ?_
          clear hK K
          go_wp2_with fail
          go_meet
          exact ⟨stepM 8 [] 0 [rows,c] [] [] (.slice (some ⟨g,0,none⟩) 2 cap) (.slice none 0 0) (.slice none 0 0),ts2,ns2,nv5,HE.out,HF.out.1.rs,HF.out.1.st,HF.out.1.xb,⟨HF.out.2,nil_row,nil_row⟩,by omega⟩
        exact AllReadyH.nil
      exact AllReadyH.nil
    exact AllReadyH.nil
  | k+8,HK,hck,hlen =>
    exfalso
    simp [kw_steps] at hck
    omega
 case rest =>
 obtain ⟨m,ts2,ns2,nv2,hE,h4,s4,x4,hm,hlen2⟩:=hcut
 have HE:=Lib.hid (And.intro hE x4)
 have HL:=Lib.hid (lay_any' m h4 hm (by omega) (Nat.le_trans hbase s4.size))
 have S4:=Lib.hid s4
 clear hE h4 s4 x4 hm
 go_wp2_with (refine wpList_load_mid (by rfl) 42 (.tmp 5) (by rfl) (W.heap.size+1) 0 (by rfl) m.cells _ (box_range HE.out.2) undNode (by rfl) sizeNode ?_)
 refine HL.out.mono ?_
 rintro e w5 ⟨nv5,rfl,h5,s5⟩
 have HF:=Lib.hid (And.intro h5 (S4.out.trans s5))
 clear h5 s5
 go_wp2_with fail
 exact bodyPost_ret (results_tmp rfl _ _ _) rfl (by rw [HE.out.1];exact ⟨_,rfl,HF.out⟩)
end
end Go.Proofs.YtnaehhpikhlppaaGreatDoor
