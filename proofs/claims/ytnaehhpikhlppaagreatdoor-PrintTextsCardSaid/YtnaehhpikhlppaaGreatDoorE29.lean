/- Several texts of the proof, joined. -/
import Derived.Test.YtnaehhpikhlppaaGreatDoorE28
import Derived.Test.YtnaehhpikhlppaaGreatDoorE21
import Derived.Test.YtnaehhpikhlppaaGreatDoorE26
set_option maxHeartbeats 4000000
set_option maxRecDepth 100000
set_option linter.unusedVariables false
set_option linter.unusedSimpArgs false
namespace Go.Proofs.YtnaehhpikhlppaaGreatDoor
open Go.RowKit LexS ParS BigFrame
attribute [local go_sem] eqZero
theorem drawn_b {W W':World} (h:Drawn W W'):Below W.heap.size W W':=by
 obtain ⟨k,rfl⟩:=h
 exact ⟨rfl,rfl,rfl,Nat.le_refl _,fun _ _=>rfl⟩
theorem same_p {W:World} {nd:Nd} {lv nv av lv2 nv2 av2:Value} {b1 b2:Nat} (h1:MOk W b1 ⟨nd,lv,nv,av⟩) (h2:MOk W b2 ⟨nd,lv2,nv2,av2⟩) :
 Calls Tryz.prog 31 #[.agg (NodeM.cells ⟨nd,lv,nv,av⟩).toArray,.agg (NodeM.cells ⟨nd,lv2,nv2,av2⟩).toArray] W fun e W'=>e=.returned (.bool true)∧Below W.heap.size W W':=by
 obtain ⟨x,hx⟩:∃ x,x=(NodeM.cells ⟨nd,lv,nv,av⟩).toArray:=⟨_,rfl⟩
 obtain ⟨y,hy⟩:∃ y,y=(NodeM.cells ⟨nd,lv2,nv2,av2⟩).toArray:=⟨_,rfl⟩
 obtain ⟨w2,hw2⟩:∃ w2,w2=(W.alloc (.cells x 42)).alloc (.cells y 42):=⟨_,rfl⟩
 have hb2:Below W.heap.size W w2:=by rw [hw2];exact ((Below.refl _ _).alloc (Nat.le_refl _) _).alloc (by rw [World.size_alloc];omega) _
 have x0:Blk w2 W.heap.size 42 (NodeM.cells ⟨nd,lv,nv,av⟩).toArray:=by
  rw [hw2,← hx]
  exact (Blk.new W _ _).kept ((Below.refl _ _).alloc (Nat.le_refl _) _)
 have y0:Blk w2 (W.heap.size+1) 42 (NodeM.cells ⟨nd,lv2,nv2,av2⟩).toArray:=by
  rw [hw2,← hy]
  have:=Blk.new (W.alloc (.cells x 42)) 42 y
  rwa [World.size_alloc] at this
 rw [← hx,← hy]
 have M1:=Lib.hid (h1.kept hb2)
 have M2:=Lib.hid (h2.kept hb2)
 have HW2:=Lib.hid hw2
 have HB2:=Lib.hid hb2
 have E1:=Lib.hid (eq_ints M1.out.l M2.out.l)
 have E2:=Lib.hid (eq_strs M1.out.names M2.out.names)
 have E3:=Lib.hid (eq_aggs M1.out.aggs M2.out.aggs)
 obtain ⟨pl,cl,hlv,_,ql2,ql3⟩:=row_cells (M1.out.l)
 obtain ⟨pl2,cl2,hlv2,_,_,rl3⟩:=row_cells (M2.out.l)
 obtain ⟨pn,cn,hnv,_,qn2,qn3⟩:=row_cells M1.out.names
 obtain ⟨pn2,cn2,hnv2,_,_,rn3⟩:=row_cells M2.out.names
 obtain ⟨pa,ca,hav,_,qa2,qa3⟩:=row_cells M1.out.aggs
 obtain ⟨pa2,ca2,hav2,_,_,ra3⟩:=row_cells M2.out.aggs
 dsimp only at hlv hlv2 hnv hnv2 hav hav2 ql2 ql3 rl3 qn2 qn3 rn3 qa2 qa3 ra3
 have HL:=Lib.hid (And.intro ql3 rl3)
 have HN:=Lib.hid (And.intro qn3 rn3)
 have HA:=Lib.hid (And.intro qa3 ra3)
 simp only [maxLen] at ql2 qn2 qa2
 clear ql3 rl3 qn3 rn3 qa3 ra3
 subst hlv hlv2 hnv hnv2 hav hav2
 have c0:w2.cell? ⟨W.heap.size,0,none⟩=some (.int .i64 (nd.kind:Int)):=x0.cell 0
 have c1:w2.cell? ⟨W.heap.size,1,none⟩=some (.string (BA nd.s)):=x0.cell 1
 have c2:w2.cell? ⟨W.heap.size,2,none⟩=some (.int .i64 nd.n):=x0.cell 2
 have c3:w2.cell? ⟨W.heap.size,3,none⟩=some (.int .i64 nd.from_):=x0.cell 3
 have c4:w2.cell? ⟨W.heap.size,4,none⟩=some (.int .i64 nd.to_):=x0.cell 4
 have c5:w2.cell? ⟨W.heap.size,5,none⟩=some (.int .i64 (nd.v.kind:Int)):=x0.cell 5
 have c6:w2.cell? ⟨W.heap.size,6,none⟩=some (.int .i64 nd.v.n):=x0.cell 6
 have c7:w2.cell? ⟨W.heap.size,7,none⟩=some (.string (BA nd.v.s)):=x0.cell 7
 have c8:w2.cell? ⟨W.heap.size,8,none⟩=some (.int .i64 0):=x0.cell 8
 have c9:w2.cell? ⟨W.heap.size,9,none⟩=some (.int .i64 0):=x0.cell 9
 have c10:w2.cell? ⟨W.heap.size,10,none⟩=some (.int .i64 0):=x0.cell 10
 have c11:w2.cell? ⟨W.heap.size,11,none⟩=some (.int .i64 0):=x0.cell 11
 have c12:w2.cell? ⟨W.heap.size,12,none⟩=some (.int .i64 0):=x0.cell 12
 have c13:w2.cell? ⟨W.heap.size,13,none⟩=some (.int .i64 0):=x0.cell 13
 have c14:w2.cell? ⟨W.heap.size,14,none⟩=some (.int .i64 0):=x0.cell 14
 have c15:w2.cell? ⟨W.heap.size,15,none⟩=some (.int .i64 0):=x0.cell 15
 have c16:w2.cell? ⟨W.heap.size,16,none⟩=some (.slice pl nd.l.length cl):=x0.cell 16
 have c17:w2.cell? ⟨W.heap.size,17,none⟩=some (.slice pn nd.names.length cn):=x0.cell 17
 have c18:w2.cell? ⟨W.heap.size,18,none⟩=some (.slice pa nd.aggs.length ca):=x0.cell 18
 have d0:w2.cell? ⟨W.heap.size+1,0,none⟩=some (.int .i64 (nd.kind:Int)):=y0.cell 0
 have d1:w2.cell? ⟨W.heap.size+1,1,none⟩=some (.string (BA nd.s)):=y0.cell 1
 have d2:w2.cell? ⟨W.heap.size+1,2,none⟩=some (.int .i64 nd.n):=y0.cell 2
 have d3:w2.cell? ⟨W.heap.size+1,3,none⟩=some (.int .i64 nd.from_):=y0.cell 3
 have d4:w2.cell? ⟨W.heap.size+1,4,none⟩=some (.int .i64 nd.to_):=y0.cell 4
 have d5:w2.cell? ⟨W.heap.size+1,5,none⟩=some (.int .i64 (nd.v.kind:Int)):=y0.cell 5
 have d6:w2.cell? ⟨W.heap.size+1,6,none⟩=some (.int .i64 nd.v.n):=y0.cell 6
 have d7:w2.cell? ⟨W.heap.size+1,7,none⟩=some (.string (BA nd.v.s)):=y0.cell 7
 have d8:w2.cell? ⟨W.heap.size+1,8,none⟩=some (.int .i64 0):=y0.cell 8
 have d9:w2.cell? ⟨W.heap.size+1,9,none⟩=some (.int .i64 0):=y0.cell 9
 have d10:w2.cell? ⟨W.heap.size+1,10,none⟩=some (.int .i64 0):=y0.cell 10
 have d11:w2.cell? ⟨W.heap.size+1,11,none⟩=some (.int .i64 0):=y0.cell 11
 have d12:w2.cell? ⟨W.heap.size+1,12,none⟩=some (.int .i64 0):=y0.cell 12
 have d13:w2.cell? ⟨W.heap.size+1,13,none⟩=some (.int .i64 0):=y0.cell 13
 have d14:w2.cell? ⟨W.heap.size+1,14,none⟩=some (.int .i64 0):=y0.cell 14
 have d15:w2.cell? ⟨W.heap.size+1,15,none⟩=some (.int .i64 0):=y0.cell 15
 have d16:w2.cell? ⟨W.heap.size+1,16,none⟩=some (.slice pl2 nd.l.length cl2):=y0.cell 16
 have d17:w2.cell? ⟨W.heap.size+1,17,none⟩=some (.slice pn2 nd.names.length cn2):=y0.cell 17
 have d18:w2.cell? ⟨W.heap.size+1,18,none⟩=some (.slice pa2 nd.aggs.length ca2):=y0.cell 18
 have r2:∀ (K:World→Prop),K w2→K ((W.alloc (.cells x 42)).alloc (.cells y 42)):=fun K h=>by rw [← HW2.out];exact h
 have HR2:=Lib.hid r2
 clear hx hy hw2 r2 x0 y0 hb2 h1 h2
 go_enter Tryz.func31,Tryz.ntmps31
 go_upto_region 1 with fail
 refine HR2.out _ ?_
 go_wp2_with fail
 refine (E1.out _ (Below.refl _ _)).mono ?_
 rintro e w3 ⟨rfl,k1,rfl⟩
 go_wp2_with fail
 refine (E2.out _ (drawn_b ⟨k1,rfl⟩)).mono ?_
 rintro e w3 ⟨rfl,k2,rfl⟩
 rw [drewN_twice]
 go_wp2_with fail
 refine (E3.out _ (drawn_b ⟨_,rfl⟩)).mono ?_
 rintro e w3 ⟨rfl,k3,rfl⟩
 rw [drewN_twice]
 go_wp2_with fail
 exact bodyPost_ret (results_tmp rfl _ _ _) rfl ⟨rfl,HB2.out.trans ⟨rfl,rfl,rfl,Nat.le_refl _,fun _ _=>rfl⟩⟩
theorem equalfunc_p {W:World} {va vb:Value} {ns:List Nd} (ha:NR W va ns) (hb:NR W vb ns) :
 Calls Tryz.prog 30 #[va,vb,.func (.func 31) #[] #[]] W fun e W'=>e=.returned (.bool true)∧Below W.heap.size W W':=by
 obtain ⟨p1,c1,rfl,_,h128,ha3⟩:=ha
 obtain ⟨p2,c2,rfl,_,_,hb3⟩:=hb
 simp only [maxLen] at h128
 have HA:=Lib.hid (And.intro ha3 hb3)
 clear ha3 hb3
 go_enter Tryz.func30,Tryz.ntmps30
 go_wp2_with fail
 go_loopg [17] (ns.length+1) (fun gk c wr => ∃ i:Nat,i≤ns.length∧ns.length<i+gk∧c=.int .i64 (i:Int)∧Below W.heap.size W wr)
 case atStart=>exact ⟨0,Nat.zero_le _,by omega,rfl,Below.refl _ _⟩
 case round =>
  obtain ⟨i,hi,hgk,rfl,hbr⟩:=hrel
  have HBR:=Lib.hid hbr
  by_cases hlt:i<ns.length
  ·have hne:ns ≠ []:=by intro h;rw [h] at hlt;simp at hlt
   obtain ⟨g1,rfl,hg1⟩:=HA.out.1 hne
   obtain ⟨g2,rfl,hg2⟩:=HA.out.2 hne
   obtain ⟨nd,hnd⟩:∃ nd,ns[i]?=some nd:=⟨ns[i],List.getElem?_eq_getElem hlt⟩
   obtain ⟨⟨nd1,lv,nv,av⟩,b1,e1,m1,q1⟩:=hg1 i nd hnd
   obtain ⟨⟨nd2,lv2,nv2,av2⟩,b2,e2,m2,q2⟩:=hg2 i nd hnd
   dsimp only at e1 e2
   have e1:=e1.symm
   have e2:=e2.symm
   subst e1
   subst e2
   have hone1:=m1.onesP
   have hone2:=m2.onesP
   obtain ⟨M1,hM1⟩:∃ m:NodeM,m=⟨nd,lv,nv,av⟩:=⟨_,rfl⟩
   obtain ⟨M2,hM2⟩:∃ m:NodeM,m=⟨nd,lv2,nv2,av2⟩:=⟨_,rfl⟩
   have HSN:=Lib.hid (fun (w':World) (hw':Below W.heap.size W w')=>same_p (m1.kept hw') (m2.kept hw'))
   rw [← hM1] at hone1 q1 HSN
   rw [← hM2] at hone2 q2 HSN
   have HQ1:=Lib.hid (fun w' hw'=>range_kept (W':=w') hw' q1)
   have HQ2:=Lib.hid (fun w' hw'=>range_kept (W':=w') hw' q2)
   have HQR:=Lib.hid (HQ1.out _ hbr)
   have HST:=Lib.hid (fun w4 h4=>nd_stored (w3:=wr) (w4:=w4) (m:=M1) h4)
   have hth:=nd_there wr
   have n1:(i:Int)<(ns.length:Int):=by omega
   have n2:(0:Int)≤(i:Int):=by omega
   have n3:decide ((i:Int)<(ns.length:Int))=true:=decide_eq_true n1
   have w1_:IntKind.i64.wrap ((i:Int)+1)=(i:Int)+1:=IntWalk.i64_in _ (by omega)
   clear hg1 hg2 hnd m1 m2 q1 q2 hM1 hM2 hbr
   go_wp2_with (first
    | (refine wpList_load_mid (by rfl) 42 (.tmp 20) (by rfl) g1 (i*19) (by rfl) M1.cells _ HQR.out undNode (by rfl) sizeNode ?_)
    | (refine wpList_store_mid (by rfl) 42 (.tmp 8) (.tmp 21) (by rfl) wr.heap.size 0 M1.cells.toArray (by rfl) (by rfl) hth sizeNode hone1 ?_
       generalize hw4:World.setCells _ _ _ _=w4
       obtain ⟨hb4,hk4⟩:=HST.out w4 hw4
       have HB4:=Lib.hid (chain HBR.out hb4)
       have HK4:=Lib.hid hk4
       have HQR2:=Lib.hid (HQ2.out _ HB4.out)
       have HST2:=Lib.hid (fun w5 h5=>nd_stored (w3:=w4) (w4:=w5) (m:=M2) h5)
       have hth2:=nd_there w4
       clear hw4 hb4 hk4 hth hone1)
    | (refine wpList_load_mid (by rfl) 42 (.tmp 24) (by rfl) g2 (i*19) (by rfl) M2.cells _ HQR2.out undNode (by rfl) sizeNode ?_)
    | (refine wpList_store_mid (by rfl) 42 (.tmp 9) (.tmp 25) (by rfl) w4.heap.size 0 M2.cells.toArray (by rfl) (by rfl) hth2 sizeNode hone2 ?_
       generalize hw5:World.setCells _ _ _ _=w5
       obtain ⟨hb5,hk5⟩:=HST2.out w5 hw5
       have HB5:=Lib.hid (chain HB4.out hb5)
       have HR1:=Lib.hid (box_range (HK4.out.kept hb5))
       have HR2:=Lib.hid (box_range hk5)
       clear hw5 hb5 hk5 hth2 hone2)
    | (refine wpList_load_mid (by rfl) 42 (.tmp 8) (by rfl) wr.heap.size 0 (by rfl) M1.cells _ HR1.out undNode (by rfl) sizeNode ?_)
    | (refine wpList_load_mid (by rfl) 42 (.tmp 9) (by rfl) w4.heap.size 0 (by rfl) M2.cells _ HR2.out undNode (by rfl) sizeNode ?_))
   refine (HSN.out _ HB5.out).mono ?_
   rintro e w6 ⟨rfl,hb6⟩
   have HB6:=Lib.hid (chain HB5.out hb6)
   clear hb6
   go_wp2_with fail
   go_roundg (ns.length-i)
   case measure=>omega
   case rel=>exact ⟨i+1,by omega,by omega,rfl,HB6.out⟩
  ·have n1:¬ (i:Int)<(ns.length:Int):=by omega
   have n3:decide ((i:Int)<(ns.length:Int))=false:=decide_eq_false n1
   clear hbr
   go_wp2_with fail
   exact bodyPost_ret (results_tmp rfl _ _ _) rfl ⟨rfl,HBR.out⟩
end Go.Proofs.YtnaehhpikhlppaaGreatDoor

namespace Go.Proofs.YtnaehhpikhlppaaGreatDoor
open Go.RowKit LexS ParS BigFrame
section
variable {w W:World} {nb:Nat} {nv:Value} {ns:List Nd} {m:NodeM} {nd:Nd} {g cap i:Nat}
theorem CK.c3 (h:CK w nb nv ns m W) (hm:m.node=nd):W.cell? ⟨nb,3,none⟩=some (.int .i64 nd.from_):=by subst hm;exact h.nd.cell 3
theorem CK.c4 (h:CK w nb nv ns m W) (hm:m.node=nd):W.cell? ⟨nb,4,none⟩=some (.int .i64 nd.to_):=by subst hm;exact h.nd.cell 4
theorem rows_all {s:Bytes} (hi:ns[i]?=some {node 1 [] with s:=s,from_:=0,to_:=1099511627775}) (hn:NR w (.slice (some ⟨g,0,none⟩) ns.length cap) ns) (hp:PW w) (hs:s.length≤130) :
 Calls Tryz.prog 45 #[.agg #[.slice (some ⟨g,0,none⟩) ns.length cap],.int .i64 (i:Int)] w (CondP w ([102,101,116,99,104,32]++s)):=by
 obtain ⟨m,b,hm,hmk,hr,_,hml⟩:=nr_rangeP hn hi
 have hlt:i<ns.length:=(List.getElem?_eq_some_iff.1 hi).1
 simp only [maxLen] at hml
 have a0:(0:Int)≤(i:Int):=by omega
 have a1:(i:Int)<(ns.length:Int):=by omega
 have hone:=hmk.onesP
 have HR:=Lib.hid (range_kept (W':=boxed w (.slice (some ⟨g,0,none⟩) ns.length cap)) ((Below.refl _ _).alloc (Nat.le_refl _) _) hr)
 have hth:=CK.there w (.slice (some ⟨g,0,none⟩) ns.length cap)
 have HS:=Lib.hid (fun w4 h4=>CK.start (w4:=w4) hp hn hmk h4)
 have HM:=Lib.hid hm
 have z1:((BA s).size:Int)≤130:=by rw [text_size];omega
 have v1:¬ 9223372036854775807<6+s.length:=by omega
 clear hi hn hp hm hmk hr hml
 go_enter Tryz.func45,Tryz.ntmps45
 go_wp2_with (first
  | (refine wpList_load_mid (by rfl) 42 (.tmp 14) (by rfl) g (i*19) (by rfl) m.cells _ HR.out undNode (by rfl) sizeNode ?_)
  | (refine wpList_store_mid (by rfl) 42 (.tmp 5) (.tmp 15) (by rfl) (w.heap.size+1) 0 m.cells.toArray (by rfl) (by rfl) hth sizeNode hone ?_
     generalize hw4:World.setCells _ _ _ _=w4
     have hc:=HS.out w4 hw4
     have k0:=hc.c0 HM.out
     have c1:=hc.c1 HM.out
     have c3:=hc.c3 HM.out
     have c4:=hc.c4 HM.out
     dsimp only [node] at k0 c1 c3 c4
     have HC:=Lib.hid hc
     clear hw4 hth hone hc))
 exact bodyPost_ret (results_tmp rfl _ _ _) rfl ⟨by show Ending.returned (Value.string ((⟨#[102,101,116,99,104,32]⟩:ByteArray)++BA s))=_;exact congrArg (fun x=>Ending.returned (Value.string x)) (cat2 [102,101,116,99,104,32] s),HC.out.below⟩
theorem cat_fetch (s F T:Bytes):(⟨#[102,101,116,99,104,32]⟩:ByteArray)++BA s++((⟨#[32,102,114,111,109,32]⟩:ByteArray)++BA F ++ ⟨#[32,116,111,32]⟩++BA T)=BA ([102,101,116,99,104,32]++s++([32,102,114,111,109,32]++F++[32,116,111,32]++T)):=by
 rw [show (⟨#[102,101,116,99,104,32]⟩:ByteArray)=BA [102,101,116,99,104,32] from rfl,show (⟨#[32,102,114,111,109,32]⟩:ByteArray)=BA [32,102,114,111,109,32] from rfl,show (⟨#[32,116,111,32]⟩:ByteArray)=BA [32,116,111,32] from rfl]
 simp only [cat2]
theorem rows_from {s:Bytes} {f t:Int} (hf:f≠0) (hi:ns[i]?=some {node 1 [] with s:=s,from_:=f,to_:=t}) (hn:NR w (.slice (some ⟨g,0,none⟩) ns.length cap) ns) (hp:PW w) (hs:s.length≤130) (f0 : -9223372036854775808≤f) (f1:f≤9223372036854775807) (t0 : -9223372036854775808≤t) (t1:t≤9223372036854775807) :
 Calls Tryz.prog 45 #[.agg #[.slice (some ⟨g,0,none⟩) ns.length cap],.int .i64 (i:Int)] w (CondP w ([102,101,116,99,104,32]++s++([32,102,114,111,109,32]++Lib.itoa f++[32,116,111,32]++Lib.itoa t))):=by
 obtain ⟨m,b,hm,hmk,hr,_,hml⟩:=nr_rangeP hn hi
 have hlt:i<ns.length:=(List.getElem?_eq_some_iff.1 hi).1
 simp only [maxLen] at hml
 have a0:(0:Int)≤(i:Int):=by omega
 have a1:(i:Int)<(ns.length:Int):=by omega
 have hone:=hmk.onesP
 have HR:=Lib.hid (range_kept (W':=boxed w (.slice (some ⟨g,0,none⟩) ns.length cap)) ((Below.refl _ _).alloc (Nat.le_refl _) _) hr)
 have hth:=CK.there w (.slice (some ⟨g,0,none⟩) ns.length cap)
 have HS:=Lib.hid (fun w4 h4=>CK.start (w4:=w4) hp hn hmk h4)
 have HM:=Lib.hid hm
 have z1:((BA s).size:Int)≤130:=by rw [text_size];omega
 have v1:¬ 9223372036854775807<6+s.length:=by omega
 have kf:=itoa_b f f0 f1
 have kt:=itoa_b t t0 t1
 have lf:=(itoa_small f f0 f1).1
 have lt:=(itoa_small t t0 t1).1
 obtain ⟨F,hF⟩:∃ F,F=Lib.itoa f:=⟨_,rfl⟩
 obtain ⟨T,hT⟩:∃ T,T=Lib.itoa t:=⟨_,rfl⟩
 rw [← hF] at kf lf ⊢
 rw [← hT] at kt lt ⊢
 have KF:=Lib.hid kf
 have KT:=Lib.hid kt
 have v2:¬ 9223372036854775807<6+F.length:=by omega
 have v3:¬ 9223372036854775807<6+F.length+4:=by omega
 have v4:¬ 9223372036854775807<6+F.length+4+T.length:=by omega
 have v5:¬ 9223372036854775807<6+s.length+(6+F.length+4+T.length):=by omega
 clear hF hT kf kt
 have g1:(f != 0)=true:=bne_iff_ne.2 hf
 clear hi hn hp hm hmk hr hml
 go_enter Tryz.func45,Tryz.ntmps45
 go_wp2_with (first
  | (refine wpList_load_mid (by rfl) 42 (.tmp 14) (by rfl) g (i*19) (by rfl) m.cells _ HR.out undNode (by rfl) sizeNode ?_)
  | (refine wpList_store_mid (by rfl) 42 (.tmp 5) (.tmp 15) (by rfl) (w.heap.size+1) 0 m.cells.toArray (by rfl) (by rfl) hth sizeNode hone ?_
     generalize hw4:World.setCells _ _ _ _=w4
     have hc:=HS.out w4 hw4
     have k0:=hc.c0 HM.out
     have c1:=hc.c1 HM.out
     have c3:=hc.c3 HM.out
     have c4:=hc.c4 HM.out
     dsimp only [node] at k0 c1 c3 c4
     have HC:=Lib.hid hc
     clear hw4 hth hone hc))
 have hk3:=HC.out.drew
 clear k0 c1
 go_region_held3 (fun w'=>w'.cell? ⟨w.heap.size+1,3,none⟩=some (.int .i64 f)∧w'.cell? ⟨w.heap.size+1,4,none⟩=some (.int .i64 t))
  (go_keep)
  (first | (go_at_call 89;(with_reducible refine (KF.out _ (CK.gw (by assumption))).mono ?_);rintro e w9 ⟨rfl,hb1⟩;have hk3:=CK.kept (by assumption) hb1;have c3:=hk3.c3 HM.out;have c4:=hk3.c4 HM.out;dsimp only [node] at c3 c4;clear hb1)
         | (go_at_call 89;(with_reducible refine (KT.out _ (CK.gw (by assumption))).mono ?_);rintro e w9 ⟨rfl,hb1⟩;have hk3:=CK.kept (by assumption) hb1;have c3:=hk3.c3 HM.out;have c4:=hk3.c4 HM.out;dsimp only [node] at c3 c4;clear hb1))
 all_goals go_wp2_with fail
 all_goals exact bodyPost_ret (results_tmp rfl _ _ _) rfl ⟨by show Ending.returned (Value.string ((⟨#[102,101,116,99,104,32]⟩:ByteArray)++BA s++((⟨#[32,102,114,111,109,32]⟩:ByteArray)++BA F ++ ⟨#[32,116,111,32]⟩++BA T)))=_;exact congrArg (fun x=>Ending.returned (Value.string x)) (cat_fetch s F T),hk3.below⟩
theorem rows_to {s:Bytes} {t:Int} (hf:t≠1099511627775) (hi:ns[i]?=some {node 1 [] with s:=s,from_:=0,to_:=t}) (hn:NR w (.slice (some ⟨g,0,none⟩) ns.length cap) ns) (hp:PW w) (hs:s.length≤130) (t0 : -9223372036854775808≤t) (t1:t≤9223372036854775807) :
 Calls Tryz.prog 45 #[.agg #[.slice (some ⟨g,0,none⟩) ns.length cap],.int .i64 (i:Int)] w (CondP w ([102,101,116,99,104,32]++s++([32,102,114,111,109,32]++Lib.itoa 0++[32,116,111,32]++Lib.itoa t))):=by
 obtain ⟨m,b,hm,hmk,hr,_,hml⟩:=nr_rangeP hn hi
 have hlt:i<ns.length:=(List.getElem?_eq_some_iff.1 hi).1
 simp only [maxLen] at hml
 have a0:(0:Int)≤(i:Int):=by omega
 have a1:(i:Int)<(ns.length:Int):=by omega
 have hone:=hmk.onesP
 have HR:=Lib.hid (range_kept (W':=boxed w (.slice (some ⟨g,0,none⟩) ns.length cap)) ((Below.refl _ _).alloc (Nat.le_refl _) _) hr)
 have hth:=CK.there w (.slice (some ⟨g,0,none⟩) ns.length cap)
 have HS:=Lib.hid (fun w4 h4=>CK.start (w4:=w4) hp hn hmk h4)
 have HM:=Lib.hid hm
 have z1:((BA s).size:Int)≤130:=by rw [text_size];omega
 have v1:¬ 9223372036854775807<6+s.length:=by omega
 have kf:=itoa_b 0 (by omega) (by omega)
 have kt:=itoa_b t t0 t1
 have lf:=(itoa_small 0 (by omega) (by omega)).1
 have lt:=(itoa_small t t0 t1).1
 obtain ⟨F,hF⟩:∃ F,F=Lib.itoa 0:=⟨_,rfl⟩
 obtain ⟨T,hT⟩:∃ T,T=Lib.itoa t:=⟨_,rfl⟩
 rw [← hF] at kf lf ⊢
 rw [← hT] at kt lt ⊢
 have KF:=Lib.hid kf
 have KT:=Lib.hid kt
 have v2:¬ 9223372036854775807<6+F.length:=by omega
 have v3:¬ 9223372036854775807<6+F.length+4:=by omega
 have v4:¬ 9223372036854775807<6+F.length+4+T.length:=by omega
 have v5:¬ 9223372036854775807<6+s.length+(6+F.length+4+T.length):=by omega
 clear hF hT kf kt
 have g1:(t != 1099511627775)=true:=bne_iff_ne.2 hf
 clear hi hn hp hm hmk hr hml
 go_enter Tryz.func45,Tryz.ntmps45
 go_wp2_with (first
  | (refine wpList_load_mid (by rfl) 42 (.tmp 14) (by rfl) g (i*19) (by rfl) m.cells _ HR.out undNode (by rfl) sizeNode ?_)
  | (refine wpList_store_mid (by rfl) 42 (.tmp 5) (.tmp 15) (by rfl) (w.heap.size+1) 0 m.cells.toArray (by rfl) (by rfl) hth sizeNode hone ?_
     generalize hw4:World.setCells _ _ _ _=w4
     have hc:=HS.out w4 hw4
     have k0:=hc.c0 HM.out
     have c1:=hc.c1 HM.out
     have c3:=hc.c3 HM.out
     have c4:=hc.c4 HM.out
     dsimp only [node] at k0 c1 c3 c4
     have HC:=Lib.hid hc
     clear hw4 hth hone hc))
 have hk3:=HC.out.drew
 clear k0 c1
 go_region_held3 (fun w'=>w'.cell? ⟨w.heap.size+1,3,none⟩=some (.int .i64 0)∧w'.cell? ⟨w.heap.size+1,4,none⟩=some (.int .i64 t))
  (go_keep)
  (first | (go_at_call 89;(with_reducible refine (KF.out _ (CK.gw (by assumption))).mono ?_);rintro e w9 ⟨rfl,hb1⟩;have hk3:=CK.kept (by assumption) hb1;have c3:=hk3.c3 HM.out;have c4:=hk3.c4 HM.out;dsimp only [node] at c3 c4;clear hb1)
         | (go_at_call 89;(with_reducible refine (KT.out _ (CK.gw (by assumption))).mono ?_);rintro e w9 ⟨rfl,hb1⟩;have hk3:=CK.kept (by assumption) hb1;have c3:=hk3.c3 HM.out;have c4:=hk3.c4 HM.out;dsimp only [node] at c3 c4;clear hb1))
 all_goals go_wp2_with fail
 all_goals exact bodyPost_ret (results_tmp rfl _ _ _) rfl ⟨by show Ending.returned (Value.string ((⟨#[102,101,116,99,104,32]⟩:ByteArray)++BA s++((⟨#[32,102,114,111,109,32]⟩:ByteArray)++BA F ++ ⟨#[32,116,111,32]⟩++BA T)))=_;exact congrArg (fun x=>Ending.returned (Value.string x)) (cat_fetch s F T),hk3.below⟩
end
end Go.Proofs.YtnaehhpikhlppaaGreatDoor
