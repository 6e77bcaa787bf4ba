/- Several texts of the proof, joined. -/
import Derived.Test.YtnaehhpikhlppaaGreatDoorE30
import Derived.Test.YtnaehhpikhlppaaGreatDoorE4
set_option maxHeartbeats 4000000
set_option maxRecDepth 100000
set_option linter.unusedVariables false
set_option linter.unusedSimpArgs false
namespace Go.Proofs.YtnaehhpikhlppaaGreatDoor
open Go.RowKit LexS ParS BigFrame
section
variable {w W:World} {nb:Nat} {nv:Value} {ns:List Nd} {m:NodeM} {nd:Nd} {g cap i:Nat}
theorem aggC_len (k:Nat):(aggC k).length≤6:=by
 have h:k=0∨k=1∨k=2∨k=3∨k=4∨k=5∨k=6∨7≤k:=by omega
 rcases h with h | h | h | h | h | h | h | h
 ·rw [h];decide
 ·rw [h];decide
 ·rw [h];decide
 ·rw [h];decide
 ·rw [h];decide
 ·rw [h];decide
 ·rw [h];decide
 ·unfold aggC aggW kw_aggs
  rw [if_neg (by omega),if_neg (by omega),List.getD_eq_getElem?_getD,List.getElem?_eq_none (by simp;omega)]
  decide
theorem aggB_of {k:Nat} {c:Bytes} (h:1≤k):aggB (k,c)=aggC k++c:=by
 show (if k=1 then aggW 1 else aggW k++[32])++c=(if k=0 then [] else if k=1 then aggW 1 else aggW k++[32])++c
 rw [if_neg (show ¬ k=0 by omega)]
theorem s3_kept {W W':World} {a b c d e:Nat} {x y z:Value} (hb:Below W.heap.size W W') (h:W.cell? ⟨a,b,none⟩=some x∧W.cell? ⟨a,c,none⟩=some y∧W.cell? ⟨d,e,none⟩=some z) :
 W'.cell? ⟨a,b,none⟩=some x∧W'.cell? ⟨a,c,none⟩=some y∧W'.cell? ⟨d,e,none⟩=some z:=⟨keepc hb h.1,keepc hb h.2.1,keepc hb h.2.2⟩
theorem s3_grown {W W':World} {a b c d e:Nat} {x y z:Value} {row:Option Nat} (hg:W.grownBy W' row) (h1:some a≠row) (h2:some d≠row) (h:W.cell? ⟨a,b,none⟩=some x∧W.cell? ⟨a,c,none⟩=some y∧W.cell? ⟨d,e,none⟩=some z) :
 W'.cell? ⟨a,b,none⟩=some x∧W'.cell? ⟨a,c,none⟩=some y∧W'.cell? ⟨d,e,none⟩=some z:=⟨hg.cell h.1 h1,hg.cell h.2.1 h1,hg.cell h.2.2 h2⟩
theorem agg_box {wr w5:World} {k:Nat} {c:Bytes} (h:wr.alloc (.cells #[.int .i64 (k:Int),.string (BA c)] 85)=w5) :
 Below wr.heap.size wr w5∧Blk w5 wr.heap.size 85 #[.int .i64 (k:Int),.string (BA c)]:=by
 subst h
 exact ⟨(Below.refl _ _).alloc (Nat.le_refl _) _,Blk.new wr 85 _⟩
theorem cat_rows_group0 (t Y:Bytes):BA t++(⟨#[32,124,32]⟩:ByteArray) ++ ⟨#[103,114,111,117,112,32]⟩ ++ ⟨#[58,32]⟩++BA Y=BA (t++[32,124,32]++[103,114,111,117,112,32]++[58,32]++Y):=by
 rw [show (⟨#[32,124,32]⟩:ByteArray)=BA [32,124,32] from rfl,show (⟨#[103,114,111,117,112,32]⟩:ByteArray)=BA [103,114,111,117,112,32] from rfl,show (⟨#[58,32]⟩:ByteArray)=BA [58,32] from rfl]
 simp only [cat2]
theorem rows_group0 {a:Nat} {t:Bytes} {l:List Bytes} {gs:List (Nat×Bytes)} (hnl:l=[]) (hi:ns[i]?=some {node 5 [a] with names:=l,aggs:=gs}) (hl:t.length≤134144) (hl2:(sepB l).length≤134144) (hl3:(sepB (gs.map aggB)).length≤134144)
 (hgs:gs.length≤1024) (hag:∀ x∈gs,AggOk x∧x.2.length≤130) (rec:WritesQ ns g cap a t):WritesQ ns g cap i (t++[32,124,32]++[103,114,111,117,112,32]++[58,32]++sepB (gs.map aggB)):=by
 intro w hn hp
 obtain ⟨m,b,hm,hmk,hr,_,hml⟩:=nr_rangeP hn hi
 have hlt:i<ns.length:=(List.getElem?_eq_some_iff.1 hi).1
 simp only [maxLen] at hml
 have a0:(0:Int)≤(i:Int):=by omega
 have a1:(i:Int)<(ns.length:Int):=by omega
 have hone:=hmk.onesP
 have HR:=Lib.hid (range_kept (W':=boxed w (.slice (some ⟨g,0,none⟩) ns.length cap)) ((Below.refl _ _).alloc (Nat.le_refl _) _) hr)
 have hth:=CK.there w (.slice (some ⟨g,0,none⟩) ns.length cap)
 have HS:=Lib.hid (fun w4 h4=>CK.start (w4:=w4) hp hn hmk h4)
 have HM:=Lib.hid hm
 obtain ⟨gl,cl,hlv,hg0⟩:=rows_of (k:=0) (x:=a) hmk hm rfl
 have hgk:∀ W',Below w.heap.size w W'→W'.cell? ⟨gl,0,none⟩=some (.int .i64 (a:Int)):=fun W' hb=>keepc hb hg0
 have HG:=Lib.hid hgk
 have hlv:m.lv=.slice (some ⟨gl,0,none⟩) 1 cl:=hlv
 have HL:=Lib.hid hlv
 have hnm:m.node.names=l:=by rw [hm]
 have ham:m.node.aggs=gs:=by rw [hm]
 have hnr:=hmk.names
 have har:=hmk.aggs
 rw [hnm] at hnr
 rw [ham] at har
 have hj:=join_row hnr hl2
 obtain ⟨pn,cn,hnv,_,_,_⟩:=row_cells hnr
 obtain ⟨pa,ca,hav,_,_,hac⟩:=row_cells har
 rw [hnv] at hj
 have hga:∀ W',Below w.heap.size w W'→∀ (k:Nat) (x:Nat×Bytes),gs[k]?=some x→∃ q,pa=some ⟨q,0,none⟩∧W'.cell? ⟨q,k*2,none⟩=some (.int .i64 (x.1:Int))∧W'.cell? ⟨q,k*2+1,none⟩=some (.string (BA x.2)):=by
  intro W' hb k x hx
  obtain ⟨q,hq,hc⟩:=hac (by have:=(List.getElem?_eq_some_iff.1 hx).1;omega)
  exact ⟨q,hq,keepc hb (hc _ _ (aggsL_get _ _ _ hx).1),keepc hb (hc _ _ (aggsL_get _ _ _ hx).2)⟩
 have HGA:=Lib.hid hga
 have HAG:=Lib.hid hag
 subst hnl
 have HNV:=Lib.hid hnv
 have HAV:=Lib.hid hav
 have HJ:=Lib.hid hj
 unfold WritesQ at rec
 have HREC:=Lib.hid rec
 obtain ⟨X,hX⟩:∃ X,X=sepB ([]:List Bytes):=⟨_,rfl⟩
 obtain ⟨Y,hY⟩:∃ Y,Y=sepB (gs.map aggB):=⟨_,rfl⟩
 skip
 rw [← hY] at hl3 ⊢
 have HX:=Lib.hid hX
 have HY:=Lib.hid hY
 have v1:¬ 9223372036854775807<t.length+3:=by omega
 have v2:¬ 9223372036854775807<t.length+3+6:=by omega
 have v3:¬ 9223372036854775807<t.length+3+6+2:=by omega
 have v4:¬ 9223372036854775807<t.length+3+6+2+Y.length:=by omega
 clear hX hY hnm ham hnr har hj hnv hav hac hga hag
 clear hi hn hp hm hmk hr hml rec hlv hg0 hgk
 go_enter Tryz.func45,Tryz.ntmps45
 go_wp2_with (first
  | (refine wpList_load_mid (by rfl) 42 (.tmp 14) (by rfl) g (i*19) (by rfl) m.cells _ HR.out undNode (by rfl) sizeNode ?_)
  | (refine wpList_store_mid (by rfl) 42 (.tmp 5) (.tmp 15) (by rfl) (w.heap.size+1) 0 m.cells.toArray (by rfl) (by rfl) hth sizeNode hone ?_
     generalize hw4:World.setCells _ _ _ _=w4
     have hc:=HS.out w4 hw4
     have k0:=hc.c0 HM.out
     have x0:w4.cell? ⟨w.heap.size,0,none⟩=some (.slice (some ⟨g,0,none⟩) ns.length cap):=hc.box.cell 0
     have x6:w4.cell? ⟨w.heap.size+1,16,none⟩=some (.slice (some ⟨gl,0,none⟩) 1 cl):=hc.c6.trans (congrArg some HL.out)
     have x7:=HG.out w4 hc.below
     have x17:w4.cell? ⟨w.heap.size+1,17,none⟩=some (.slice pn 0 cn):=hc.c17.trans (congrArg some HNV.out)
     have x18:w4.cell? ⟨w.heap.size+1,18,none⟩=some (.slice pa gs.length ca):=hc.c18.trans (congrArg some HAV.out)
     have xs:w4.cell? ⟨1,5,none⟩=some (.string ⟨#[103,114,111,117,112,32]⟩):=hc.pw.steps 5 (by omega)
     dsimp only [node] at k0
     have HC:=Lib.hid hc
     clear hw4 hth hone hc))
 have hk3:=HC.out.drew
 go_region_held3 (fun w'=>w'.cell? ⟨w.heap.size,0,none⟩=some (.slice (some ⟨g,0,none⟩) ns.length cap)∧w'.cell? ⟨w.heap.size+1,16,none⟩=some (.slice (some ⟨gl,0,none⟩) 1 cl)∧w'.cell? ⟨gl,0,none⟩=some (.int .i64 (a:Int))∧w'.cell? ⟨w.heap.size+1,0,none⟩=some (.int .i64 5)∧w'.cell? ⟨1,5,none⟩=some (.string ⟨#[103,114,111,117,112,32]⟩))
  (go_keep)
  (first | (go_at_call 45;(with_reducible refine (HREC.out _ (CK.nr (by assumption)) (CK.pw (by assumption))).mono ?_);rintro e w9 ⟨rfl,hb1⟩;have hk3:=CK.kept (by assumption) hb1;have k0:=hk3.c0 HM.out;have x0:w9.cell? ⟨w.heap.size,0,none⟩=some (.slice (some ⟨g,0,none⟩) ns.length cap):=hk3.box.cell 0;have x6:w9.cell? ⟨w.heap.size+1,16,none⟩=some (.slice (some ⟨gl,0,none⟩) 1 cl):=hk3.c6.trans (congrArg some HL.out);have x7:=HG.out w9 hk3.below;have x17:w9.cell? ⟨w.heap.size+1,17,none⟩=some (.slice pn 0 cn):=hk3.c17.trans (congrArg some HNV.out);have x18:w9.cell? ⟨w.heap.size+1,18,none⟩=some (.slice pa gs.length ca):=hk3.c18.trans (congrArg some HAV.out);have xs:w9.cell? ⟨1,5,none⟩=some (.string ⟨#[103,114,111,117,112,32]⟩):=hk3.pw.steps 5 (by omega);dsimp only [node] at k0;clear hb1))
 go_wp2_with fail
 have HK:=Lib.hid hk3
 clear hk3 k0 x0 x6 x7 xs x17 x18
 go_loopg [8,106] (gs.length+1) (fun gk lv c wr => ∃ k:Nat,k≤gs.length∧gs.length<k+gk∧c=.int .i64 (k:Int)∧wr.ownsRow w9.heap.size 9 1 lv k (strsL ((gs.take k).map aggB))∧Below w9.heap.size w9 wr)
 case atStart=>exact ⟨0,Nat.zero_le _,by omega,rfl,World.ownsRow_nil _ _ _ _,Below.refl _ _⟩
 case round =>
  obtain ⟨k,hk,hgk,rfl,hrow,hbw⟩:=hrel
  have HROW:=Lib.hid hrow
  have HBW:=Lib.hid hbw
  obtain ⟨o3,cp3,rfl⟩:=row_slice hrow
  clear hrow hbw
  by_cases hlt:k<gs.length
  ·obtain ⟨ag,hag⟩:∃ ag,gs[k]?=some ag:=⟨gs[k],List.getElem?_eq_getElem hlt⟩
   obtain ⟨q,rfl,u1,u2⟩:=HGA.out wr (chain HK.out.below HBW.out) k ag hag
   obtain ⟨hok,hlen⟩:=HAG.out ag (List.mem_of_getElem? hag)
   obtain ⟨ak,ac⟩:=ag
   dsimp only at u1 u2 hlen
   have hak:1≤ak∧ak≤6:=by
    rcases hok with e | ⟨e1,e2⟩
    ·have:=congrArg Prod.fst e
     dsimp only at this
     omega
    ·exact ⟨Nat.le_trans (by omega) e1,e2⟩
   have hax:=HK.out.pw.aggs ak (by omega)
   have hglt:2<w9.heap.size:=World.block_lt_of_cell? w9 _ hax
   have hax:=keepc HBW.out hax
   have hcl:=aggC_len ak
   have hab:=aggB_of (c:=ac) hak.1
   obtain ⟨sb,hsb⟩:∃ sb,sb=aggC ak:=⟨_,rfl⟩
   rw [← hsb] at hax hcl hab
   have HTK:=Lib.hid (show strsL ((gs.take (k+1)).map aggB)=strsL ((gs.take k).map aggB)++[.string (BA sb++BA ac)] by
    rw [List.take_add_one,hag,cat2,← hab]
    simp [strsL])
   have HBX:=Lib.hid (fun w5 h5=>agg_box (wr:=wr) (w5:=w5) (k:=ak) (c:=ac) h5)
   have n1:(k:Int)<(gs.length:Int):=by omega
   have n2:(0:Int)≤(k:Int):=by omega
   have n3:decide ((k:Int)<(gs.length:Int))=true:=decide_eq_true n1
   have n4:(0:Int)≤(ak:Int):=by omega
   have n5:(ak:Int)<7:=by omega
   have w1_:IntKind.i64.wrap ((k:Int)+1)=(k:Int)+1:=IntWalk.i64_in _ (by omega)
   have v7:¬ 9223372036854775807<sb.length+ac.length:=by omega
   obtain ⟨i0,hi0,hz0,hz1,hz2⟩:=info_parts infoStr
   clear hag hsb hab hok
   go_wp2_with fail
   generalize hw5:World.alloc _ _=w5
   obtain ⟨hb5,hx5⟩:=HBX.out w5 hw5
   have hs3:w5.drew.cell? ⟨wr.heap.size,0,none⟩=some (.int .i64 (ak:Int))∧w5.drew.cell? ⟨wr.heap.size,1,none⟩=some (.string (BA ac))∧w5.drew.cell? ⟨2,ak,none⟩=some (.string (BA sb)):=⟨hx5.cell 0,hx5.cell 1,keepc hb5.drew hax⟩
   obtain ⟨w6,hw6⟩:∃ w6,w6=w5.drew.alloc (.cells #[.string (BA sb++BA ac)] 9):=⟨_,rfl⟩
   have hb6:Below wr.heap.size wr w6:=by rw [hw6];exact hb5.drew.alloc hb5.size _
   have HB6:=Lib.hid (HBW.out.trans (hb6.mono HBW.out.size))
   have HOW:=Lib.hid (own_kept HROW.out hb6)
   have HNW:=Lib.hid (show ∀ (j:Nat) u,[Value.string (BA sb++BA ac)][j]?=some u→w6.cell? ((⟨w5.heap.size,0,none⟩:Addr).add j)=some u by
    intro j u hu
    rw [hw6]
    exact blk_cells (Blk.new w5.drew 9 #[.string (BA sb++BA ac)]) j u hu)
   have HSZ:=Lib.hid HB6.out.size
   have HN1:=Lib.hid (show some wr.heap.size≠(Value.slice o3 k cp3).ownBlock from fun e=>by have:=(HROW.out.lt _ e.symm).2;omega)
   have HN2:=Lib.hid (show some 2≠(Value.slice o3 k cp3).ownBlock from fun e=>by have:=(HROW.out.lt _ e.symm).1;omega)
   have HW6:=Lib.hid hw6
   clear hw5 hb5 hx5 hax hw6 hb6 u1 u2
   rw [HW6.out] at HB6 HOW HNW HSZ
   go_region_held3 (fun w'=>w'.cell? ⟨wr.heap.size,0,none⟩=some (.int .i64 (ak:Int))∧w'.cell? ⟨wr.heap.size,1,none⟩=some (.string (BA ac))∧w'.cell? ⟨2,ak,none⟩=some (.string (BA sb)))
    (first | assumption | exact s3_kept ((Below.refl _ _).alloc (Nat.le_refl _) _) (by assumption))
    (first | (rw [if_pos (by rfl)];refine wp_append_own _ _ _ _ (by rfl) w9.heap.size 9 i0 _ 1 16 (by kernel_rfl) hi0 hz0 hz1 hz2 (by rfl) (by decide) _ k (strsL ((gs.take k).map aggB)) (by rfl) HOW.out ⟨w5.heap.size,0,none⟩ 1 1 [.string (BA sb++BA ac)] (by rfl) (by rfl) HNW.out (by simp [Value.oneCell']) (by simp only [maxLen];omega) (by omega) HSZ.out ?_;intro v' w' ho' hgr _;have hs4:=s3_grown hgr HN1.out HN2.out (by assumption);have HF:=Lib.hid (And.intro ho' (HB6.out.grown hgr HB6.out.size (fun k hk=>(HOW.out.lt k hk).1)));clear ho' hgr))
   rw [← HTK.out] at HF
   go_wp2_with fail
   go_roundg (gs.length-k)
   case measure=>omega
   case rel=>exact ⟨k+1,by omega,by omega,rfl,HF.out.1,HF.out.2⟩
  ·have hke:k=gs.length:=by omega
   subst hke
   have n1:¬ (gs.length:Int)<(gs.length:Int):=by omega
   have n3:decide ((gs.length:Int)<(gs.length:Int))=false:=decide_eq_false n1
   have hrw:=HROW.out
   rw [List.take_length] at hrw
   have hlm:(gs.map aggB).length=gs.length:=List.length_map _
   have hj2:=join_row (W0:=wr) (l:=gs.map aggB) (by rw [hlm];exact hrw) (by rw [← HY.out];exact hl3) wr (Below.refl _ _)
   rw [← HY.out] at hj2
   have HJ2:=Lib.hid hj2
   have HB9:=Lib.hid (chain HK.out.below HBW.out)
   clear hrw hj2 hlm
   go_wp2_with fail
   refine HJ2.out.mono ?_
   rintro e w10 ⟨rfl,hb10⟩
   have HB10:=Lib.hid (chain HB9.out hb10)
   clear hb10
   go_wp2_with fail
   exact bodyPost_ret (results_tmp rfl _ _ _) rfl ⟨by show Ending.returned (Value.string (BA t++(⟨#[32,124,32]⟩:ByteArray) ++ ⟨#[103,114,111,117,112,32]⟩ ++ ⟨#[58,32]⟩++BA Y))=_;exact congrArg (fun x=>Ending.returned (Value.string x)) (cat_rows_group0 t Y),HB10.out⟩
theorem cat_rows_groupN (t X Y:Bytes):BA t++(⟨#[32,124,32]⟩:ByteArray) ++ ⟨#[103,114,111,117,112,32]⟩++(BA X ++ ⟨#[32]⟩) ++ ⟨#[58,32]⟩++BA Y=BA (t++[32,124,32]++[103,114,111,117,112,32]++(X++[32])++[58,32]++Y):=by
 rw [show (⟨#[32,124,32]⟩:ByteArray)=BA [32,124,32] from rfl,show (⟨#[103,114,111,117,112,32]⟩:ByteArray)=BA [103,114,111,117,112,32] from rfl,show (⟨#[58,32]⟩:ByteArray)=BA [58,32] from rfl,show (⟨#[32]⟩:ByteArray)=BA [32] from rfl]
 simp only [cat2]
theorem rows_groupN {a:Nat} {t:Bytes} {l:List Bytes} {gs:List (Nat×Bytes)} (hnl:l ≠ []) (hi:ns[i]?=some {node 5 [a] with names:=l,aggs:=gs}) (hl:t.length≤134144) (hl2:(sepB l).length≤134144) (hl3:(sepB (gs.map aggB)).length≤134144)
 (hgs:gs.length≤1024) (hag:∀ x∈gs,AggOk x∧x.2.length≤130) (rec:WritesQ ns g cap a t):WritesQ ns g cap i (t++[32,124,32]++[103,114,111,117,112,32]++(sepB l++[32])++[58,32]++sepB (gs.map aggB)):=by
 intro w hn hp
 obtain ⟨m,b,hm,hmk,hr,_,hml⟩:=nr_rangeP hn hi
 have hlt:i<ns.length:=(List.getElem?_eq_some_iff.1 hi).1
 simp only [maxLen] at hml
 have a0:(0:Int)≤(i:Int):=by omega
 have a1:(i:Int)<(ns.length:Int):=by omega
 have hone:=hmk.onesP
 have HR:=Lib.hid (range_kept (W':=boxed w (.slice (some ⟨g,0,none⟩) ns.length cap)) ((Below.refl _ _).alloc (Nat.le_refl _) _) hr)
 have hth:=CK.there w (.slice (some ⟨g,0,none⟩) ns.length cap)
 have HS:=Lib.hid (fun w4 h4=>CK.start (w4:=w4) hp hn hmk h4)
 have HM:=Lib.hid hm
 obtain ⟨gl,cl,hlv,hg0⟩:=rows_of (k:=0) (x:=a) hmk hm rfl
 have hgk:∀ W',Below w.heap.size w W'→W'.cell? ⟨gl,0,none⟩=some (.int .i64 (a:Int)):=fun W' hb=>keepc hb hg0
 have HG:=Lib.hid hgk
 have hlv:m.lv=.slice (some ⟨gl,0,none⟩) 1 cl:=hlv
 have HL:=Lib.hid hlv
 have hnm:m.node.names=l:=by rw [hm]
 have ham:m.node.aggs=gs:=by rw [hm]
 have hnr:=hmk.names
 have har:=hmk.aggs
 rw [hnm] at hnr
 rw [ham] at har
 have hj:=join_row hnr hl2
 obtain ⟨pn,cn,hnv,_,_,_⟩:=row_cells hnr
 obtain ⟨pa,ca,hav,_,_,hac⟩:=row_cells har
 rw [hnv] at hj
 have hga:∀ W',Below w.heap.size w W'→∀ (k:Nat) (x:Nat×Bytes),gs[k]?=some x→∃ q,pa=some ⟨q,0,none⟩∧W'.cell? ⟨q,k*2,none⟩=some (.int .i64 (x.1:Int))∧W'.cell? ⟨q,k*2+1,none⟩=some (.string (BA x.2)):=by
  intro W' hb k x hx
  obtain ⟨q,hq,hc⟩:=hac (by have:=(List.getElem?_eq_some_iff.1 hx).1;omega)
  exact ⟨q,hq,keepc hb (hc _ _ (aggsL_get _ _ _ hx).1),keepc hb (hc _ _ (aggsL_get _ _ _ hx).2)⟩
 have HGA:=Lib.hid hga
 have HAG:=Lib.hid hag
 have k17:(0:Int)<(l.length:Int):=by have:=List.length_pos_iff.2 hnl;omega
 have k17':decide ((0:Int)<(l.length:Int))=true:=decide_eq_true k17
 have HNV:=Lib.hid hnv
 have HAV:=Lib.hid hav
 have HJ:=Lib.hid hj
 unfold WritesQ at rec
 have HREC:=Lib.hid rec
 obtain ⟨X,hX⟩:∃ X,X=sepB l:=⟨_,rfl⟩
 obtain ⟨Y,hY⟩:∃ Y,Y=sepB (gs.map aggB):=⟨_,rfl⟩
 rw [← hX] at hl2 ⊢
 rw [← hY] at hl3 ⊢
 have HX:=Lib.hid hX
 have HY:=Lib.hid hY
 have v1:¬ 9223372036854775807<t.length+3:=by omega
 have v2:¬ 9223372036854775807<t.length+3+6:=by omega
 have v5:¬ 9223372036854775807<X.length+1:=by omega
 have v6:¬ 9223372036854775807<t.length+3+6+(X.length+1):=by omega
 have v3:¬ 9223372036854775807<t.length+3+6+(X.length+1)+2:=by omega
 have v4:¬ 9223372036854775807<t.length+3+6+(X.length+1)+2+Y.length:=by omega
 clear hX hY hnm ham hnr har hj hnv hav hac hga hag hnl
 clear hi hn hp hm hmk hr hml rec hlv hg0 hgk
 go_enter Tryz.func45,Tryz.ntmps45
 go_wp2_with (first
  | (refine wpList_load_mid (by rfl) 42 (.tmp 14) (by rfl) g (i*19) (by rfl) m.cells _ HR.out undNode (by rfl) sizeNode ?_)
  | (refine wpList_store_mid (by rfl) 42 (.tmp 5) (.tmp 15) (by rfl) (w.heap.size+1) 0 m.cells.toArray (by rfl) (by rfl) hth sizeNode hone ?_
     generalize hw4:World.setCells _ _ _ _=w4
     have hc:=HS.out w4 hw4
     have k0:=hc.c0 HM.out
     have x0:w4.cell? ⟨w.heap.size,0,none⟩=some (.slice (some ⟨g,0,none⟩) ns.length cap):=hc.box.cell 0
     have x6:w4.cell? ⟨w.heap.size+1,16,none⟩=some (.slice (some ⟨gl,0,none⟩) 1 cl):=hc.c6.trans (congrArg some HL.out)
     have x7:=HG.out w4 hc.below
     have x17:w4.cell? ⟨w.heap.size+1,17,none⟩=some (.slice pn l.length cn):=hc.c17.trans (congrArg some HNV.out)
     have x18:w4.cell? ⟨w.heap.size+1,18,none⟩=some (.slice pa gs.length ca):=hc.c18.trans (congrArg some HAV.out)
     have xs:w4.cell? ⟨1,5,none⟩=some (.string ⟨#[103,114,111,117,112,32]⟩):=hc.pw.steps 5 (by omega)
     dsimp only [node] at k0
     have HC:=Lib.hid hc
     clear hw4 hth hone hc))
 have hk3:=HC.out.drew
 go_region_held3 (fun w'=>w'.cell? ⟨w.heap.size,0,none⟩=some (.slice (some ⟨g,0,none⟩) ns.length cap)∧w'.cell? ⟨w.heap.size+1,16,none⟩=some (.slice (some ⟨gl,0,none⟩) 1 cl)∧w'.cell? ⟨gl,0,none⟩=some (.int .i64 (a:Int))∧w'.cell? ⟨w.heap.size+1,0,none⟩=some (.int .i64 5)∧w'.cell? ⟨1,5,none⟩=some (.string ⟨#[103,114,111,117,112,32]⟩))
  (go_keep)
  (first | (go_at_call 45;(with_reducible refine (HREC.out _ (CK.nr (by assumption)) (CK.pw (by assumption))).mono ?_);rintro e w9 ⟨rfl,hb1⟩;have hk3:=CK.kept (by assumption) hb1;have k0:=hk3.c0 HM.out;have x0:w9.cell? ⟨w.heap.size,0,none⟩=some (.slice (some ⟨g,0,none⟩) ns.length cap):=hk3.box.cell 0;have x6:w9.cell? ⟨w.heap.size+1,16,none⟩=some (.slice (some ⟨gl,0,none⟩) 1 cl):=hk3.c6.trans (congrArg some HL.out);have x7:=HG.out w9 hk3.below;have x17:w9.cell? ⟨w.heap.size+1,17,none⟩=some (.slice pn l.length cn):=hk3.c17.trans (congrArg some HNV.out);have x18:w9.cell? ⟨w.heap.size+1,18,none⟩=some (.slice pa gs.length ca):=hk3.c18.trans (congrArg some HAV.out);have xs:w9.cell? ⟨1,5,none⟩=some (.string ⟨#[103,114,111,117,112,32]⟩):=hk3.pw.steps 5 (by omega);dsimp only [node] at k0;clear hb1))
 go_wp2_with fail
 refine (HJ.out _ hk3.below).mono ?_
 rintro e w8 ⟨rfl,hb1⟩
 rw [← HX.out]
 have hk4:=hk3.kept hb1
 clear k0 x0 x6 x7 xs x17 x18
 have x18:w8.cell? ⟨w.heap.size+1,18,none⟩=some (.slice pa gs.length ca):=hk4.c18.trans (congrArg some HAV.out)
 clear hb1 hk3
 have hk3:=hk4
 clear hk4
 go_wp2_with fail
 have HK:=Lib.hid hk3
 clear hk3 x18
 go_loopg [8,106] (gs.length+1) (fun gk lv c wr => ∃ k:Nat,k≤gs.length∧gs.length<k+gk∧c=.int .i64 (k:Int)∧wr.ownsRow w8.heap.size 9 1 lv k (strsL ((gs.take k).map aggB))∧Below w8.heap.size w8 wr)
 case atStart=>exact ⟨0,Nat.zero_le _,by omega,rfl,World.ownsRow_nil _ _ _ _,Below.refl _ _⟩
 case round =>
  obtain ⟨k,hk,hgk,rfl,hrow,hbw⟩:=hrel
  have HROW:=Lib.hid hrow
  have HBW:=Lib.hid hbw
  obtain ⟨o3,cp3,rfl⟩:=row_slice hrow
  clear hrow hbw
  by_cases hlt:k<gs.length
  ·obtain ⟨ag,hag⟩:∃ ag,gs[k]?=some ag:=⟨gs[k],List.getElem?_eq_getElem hlt⟩
   obtain ⟨q,rfl,u1,u2⟩:=HGA.out wr (chain HK.out.below HBW.out) k ag hag
   obtain ⟨hok,hlen⟩:=HAG.out ag (List.mem_of_getElem? hag)
   obtain ⟨ak,ac⟩:=ag
   dsimp only at u1 u2 hlen
   have hak:1≤ak∧ak≤6:=by
    rcases hok with e | ⟨e1,e2⟩
    ·have:=congrArg Prod.fst e
     dsimp only at this
     omega
    ·exact ⟨Nat.le_trans (by omega) e1,e2⟩
   have hax:=HK.out.pw.aggs ak (by omega)
   have hglt:2<w8.heap.size:=World.block_lt_of_cell? w8 _ hax
   have hax:=keepc HBW.out hax
   have hcl:=aggC_len ak
   have hab:=aggB_of (c:=ac) hak.1
   obtain ⟨sb,hsb⟩:∃ sb,sb=aggC ak:=⟨_,rfl⟩
   rw [← hsb] at hax hcl hab
   have HTK:=Lib.hid (show strsL ((gs.take (k+1)).map aggB)=strsL ((gs.take k).map aggB)++[.string (BA sb++BA ac)] by
    rw [List.take_add_one,hag,cat2,← hab]
    simp [strsL])
   have HBX:=Lib.hid (fun w5 h5=>agg_box (wr:=wr) (w5:=w5) (k:=ak) (c:=ac) h5)
   have n1:(k:Int)<(gs.length:Int):=by omega
   have n2:(0:Int)≤(k:Int):=by omega
   have n3:decide ((k:Int)<(gs.length:Int))=true:=decide_eq_true n1
   have n4:(0:Int)≤(ak:Int):=by omega
   have n5:(ak:Int)<7:=by omega
   have w1_:IntKind.i64.wrap ((k:Int)+1)=(k:Int)+1:=IntWalk.i64_in _ (by omega)
   have v7:¬ 9223372036854775807<sb.length+ac.length:=by omega
   obtain ⟨i0,hi0,hz0,hz1,hz2⟩:=info_parts infoStr
   clear hag hsb hab hok
   go_wp2_with fail
   generalize hw5:World.alloc _ _=w5
   obtain ⟨hb5,hx5⟩:=HBX.out w5 hw5
   have hs3:w5.drew.cell? ⟨wr.heap.size,0,none⟩=some (.int .i64 (ak:Int))∧w5.drew.cell? ⟨wr.heap.size,1,none⟩=some (.string (BA ac))∧w5.drew.cell? ⟨2,ak,none⟩=some (.string (BA sb)):=⟨hx5.cell 0,hx5.cell 1,keepc hb5.drew hax⟩
   obtain ⟨w6,hw6⟩:∃ w6,w6=w5.drew.alloc (.cells #[.string (BA sb++BA ac)] 9):=⟨_,rfl⟩
   have hb6:Below wr.heap.size wr w6:=by rw [hw6];exact hb5.drew.alloc hb5.size _
   have HB6:=Lib.hid (HBW.out.trans (hb6.mono HBW.out.size))
   have HOW:=Lib.hid (own_kept HROW.out hb6)
   have HNW:=Lib.hid (show ∀ (j:Nat) u,[Value.string (BA sb++BA ac)][j]?=some u→w6.cell? ((⟨w5.heap.size,0,none⟩:Addr).add j)=some u by
    intro j u hu
    rw [hw6]
    exact blk_cells (Blk.new w5.drew 9 #[.string (BA sb++BA ac)]) j u hu)
   have HSZ:=Lib.hid HB6.out.size
   have HN1:=Lib.hid (show some wr.heap.size≠(Value.slice o3 k cp3).ownBlock from fun e=>by have:=(HROW.out.lt _ e.symm).2;omega)
   have HN2:=Lib.hid (show some 2≠(Value.slice o3 k cp3).ownBlock from fun e=>by have:=(HROW.out.lt _ e.symm).1;omega)
   have HW6:=Lib.hid hw6
   clear hw5 hb5 hx5 hax hw6 hb6 u1 u2
   rw [HW6.out] at HB6 HOW HNW HSZ
   go_region_held3 (fun w'=>w'.cell? ⟨wr.heap.size,0,none⟩=some (.int .i64 (ak:Int))∧w'.cell? ⟨wr.heap.size,1,none⟩=some (.string (BA ac))∧w'.cell? ⟨2,ak,none⟩=some (.string (BA sb)))
    (first | assumption | exact s3_kept ((Below.refl _ _).alloc (Nat.le_refl _) _) (by assumption))
    (first | (rw [if_pos (by rfl)];refine wp_append_own _ _ _ _ (by rfl) w8.heap.size 9 i0 _ 1 16 (by kernel_rfl) hi0 hz0 hz1 hz2 (by rfl) (by decide) _ k (strsL ((gs.take k).map aggB)) (by rfl) HOW.out ⟨w5.heap.size,0,none⟩ 1 1 [.string (BA sb++BA ac)] (by rfl) (by rfl) HNW.out (by simp [Value.oneCell']) (by simp only [maxLen];omega) (by omega) HSZ.out ?_;intro v' w' ho' hgr _;have hs4:=s3_grown hgr HN1.out HN2.out (by assumption);have HF:=Lib.hid (And.intro ho' (HB6.out.grown hgr HB6.out.size (fun k hk=>(HOW.out.lt k hk).1)));clear ho' hgr))
   rw [← HTK.out] at HF
   go_wp2_with fail
   go_roundg (gs.length-k)
   case measure=>omega
   case rel=>exact ⟨k+1,by omega,by omega,rfl,HF.out.1,HF.out.2⟩
  ·have hke:k=gs.length:=by omega
   subst hke
   have n1:¬ (gs.length:Int)<(gs.length:Int):=by omega
   have n3:decide ((gs.length:Int)<(gs.length:Int))=false:=decide_eq_false n1
   have hrw:=HROW.out
   rw [List.take_length] at hrw
   have hlm:(gs.map aggB).length=gs.length:=List.length_map _
   have hj2:=join_row (W0:=wr) (l:=gs.map aggB) (by rw [hlm];exact hrw) (by rw [← HY.out];exact hl3) wr (Below.refl _ _)
   rw [← HY.out] at hj2
   have HJ2:=Lib.hid hj2
   have HB9:=Lib.hid (chain HK.out.below HBW.out)
   clear hrw hj2 hlm
   go_wp2_with fail
   refine HJ2.out.mono ?_
   rintro e w10 ⟨rfl,hb10⟩
   have HB10:=Lib.hid (chain HB9.out hb10)
   clear hb10
   go_wp2_with fail
   exact bodyPost_ret (results_tmp rfl _ _ _) rfl ⟨by show Ending.returned (Value.string (BA t++(⟨#[32,124,32]⟩:ByteArray) ++ ⟨#[103,114,111,117,112,32]⟩++(BA X ++ ⟨#[32]⟩) ++ ⟨#[58,32]⟩++BA Y))=_;exact congrArg (fun x=>Ending.returned (Value.string x)) (cat_rows_groupN t X Y),HB10.out⟩
end
end Go.Proofs.YtnaehhpikhlppaaGreatDoor

namespace Go.Proofs.YtnaehhpikhlppaaGreatDoor.ParS
open LexS
def rowsOf (k:Nat):Nat:=if 2≤k∧k≤6 then 1 else if k=7∨k=8 then 2 else 0
def condsOf (k:Nat):Nat:=if k=2∨k=13 then 1 else if k=11∨k=12 then 2 else 0
def known (k:Nat):Prop:=(1≤k∧k≤8)∨(11≤k∧k≤15)
structure Fit (b:Nat) (ms:List Nd) (i:Nat) (nd:Nd):Prop where
 kd:known nd.kind
 len:nd.l.length=rowsOf nd.kind+condsOf nd.kind
 below:∀ j a,nd.l[j]?=some a→b≤a∧a<b+i∧∃ c,ms[a-b]?=some c∧(rowsOf nd.kind≤j↔11≤c.kind)
 between:∀ a,nd.l[0]?=some a→2≤nd.kind→nd.kind≤6→∀ k c,a<b+k→k<i→ms[k]?=some c→11≤c.kind
 under:11≤nd.kind→∀ (j a:Nat),nd.l[j]?=some a→∀ k c,a<b+k→k<i→ms[k]?=some c→11≤c.kind
 order:∀ a d,nd.l[0]?=some a→nd.l[1]?=some d→a<d
def Fits (b:Nat) (ms:List Nd):Prop := ∀ i nd,ms[i]?=some nd→Fit b ms i nd
theorem some_lt {α:Type} {l:List α} {i:Nat} {x:α} (h:l[i]?=some x):i<l.length:=(List.getElem?_eq_some_iff.1 h).1
theorem Fit.more {b i:Nat} {ms us:List Nd} {nd:Nd} (h:Fit b ms i nd) (hi:i≤ms.length):Fit b (ms++us) i nd:=by
 refine ⟨h.kd,h.len,fun j a e=>?_,fun a e h1 h2 k c h3 h4 h5=>?_,fun h1 j a e k c h3 h4 h5=>?_,h.order⟩
 ·obtain ⟨h1,h2,c,h3,h4⟩:=h.below j a e
  exact ⟨h1,h2,c,by rw [List.getElem?_append_left (some_lt h3)];exact h3,h4⟩
 ·rw [List.getElem?_append_left (by omega)] at h5
  exact h.between a e h1 h2 k c h3 h4 h5
 ·rw [List.getElem?_append_left (by omega)] at h5
  exact h.under h1 j a e k c h3 h4 h5
theorem Fit.shift {b i:Nat} {ts us:List Nd} {nd:Nd} (h:Fit (b+ts.length) us i nd):Fit b (ts++us) (ts.length+i) nd:=by
 refine ⟨h.kd,h.len,fun j a e=>?_,fun a e h1 h2 k c h3 h4 h5=>?_,fun h1 j a e k c h3 h4 h5=>?_,h.order⟩
 ·obtain ⟨h1,h2,c,h3,h4⟩:=h.below j a e
  refine ⟨by omega,by omega,c,?_,h4⟩
  rw [List.getElem?_append_right (by omega),show a-b-ts.length=a-(b+ts.length) by omega]
  exact h3
 ·have h6:=(h.below 0 a e).1
  rw [List.getElem?_append_right (by omega)] at h5
  exact h.between a e h1 h2 (k-ts.length) c (by omega) (by omega) h5
 ·have h6:=(h.below j a e).1
  rw [List.getElem?_append_right (by omega)] at h5
  exact h.under h1 j a e (k-ts.length) c (by omega) (by omega) h5
theorem fits_last {b:Nat} {ms:List Nd} {n:Nd} (h:Fits b ms) (hn:Fit b ms ms.length n):Fits b (ms++[n]):=by
 intro i nd hi
 by_cases hlt:i<ms.length
 ·rw [List.getElem?_append_left hlt] at hi
  exact (h i nd hi).more (by omega)
 ·rw [List.getElem?_append_right (by omega)] at hi
  have he:i-ms.length=0:=by
   have:=some_lt hi
   simp at this
   omega
  rw [he] at hi
  simp only [List.getElem?_cons_zero,Option.some.injEq] at hi
  subst hi
  have:i=ms.length:=by omega
  subst this
  exact hn.more (Nat.le_refl _)
theorem fits_app {b:Nat} {ts us:List Nd} (h:Fits b ts) (k:Fits (b+ts.length) us):Fits b (ts++us):=by
 intro i nd hi
 by_cases hlt:i<ts.length
 ·rw [List.getElem?_append_left hlt] at hi
  exact (h i nd hi).more (by omega)
 ·rw [List.getElem?_append_right (by omega)] at hi
  have:=(k _ nd hi).shift
  rwa [show ts.length+(i-ts.length)=i by omega] at this
theorem ct_kinds {b:Nat} {ms:List Nd} (h:CT b ms):∀ nd∈ms,11≤nd.kind:=by
 induction h with
 | leaf b n hk _ =>
   intro nd hm
   rw [List.mem_singleton] at hm
   subst hm
   omega
 | un b ts n _ hk _ ih =>
   intro nd hm
   rcases List.mem_append.1 hm with hm | hm
   ·exact ih nd hm
   ·rw [List.mem_singleton] at hm
    subst hm
    omega
 | bin b ts us n _ _ hk _ i1 i2 =>
   intro nd hm
   rcases List.mem_append.1 hm with hm | hm
   ·rcases List.mem_append.1 hm with hm | hm
    ·exact i1 nd hm
    ·exact i2 nd hm
   ·rw [List.mem_singleton] at hm
    subst hm
    omega
theorem ct_ne {b:Nat} {ms:List Nd} (h:CT b ms):0<ms.length:=List.length_pos_iff.2 (tree_ct h).ne
theorem qt_ne {b:Nat} {ms:List Nd} (h:QT b ms):0<ms.length:=List.length_pos_iff.2 (tree_qt h).ne
theorem ct_last {b:Nat} {ms:List Nd} (h:CT b ms):∃ c,ms[ms.length-1]?=some c∧11≤c.kind:=by
 have hl:=ct_ne h
 exact ⟨ms[ms.length-1],List.getElem?_eq_getElem (by omega),ct_kinds h _ (List.getElem_mem _)⟩
theorem last_one {ts:List Nd} {n:Nd}:(ts++[n])[(ts++[n]).length-1]?=some n:=by
 rw [List.length_append,List.length_singleton,Nat.add_sub_cancel,List.getElem?_append_right (Nat.le_refl _),Nat.sub_self]
 rfl
theorem qt_last {b:Nat} {ms:List Nd} (h:QT b ms):∃ c,ms[ms.length-1]?=some c∧¬ 11≤c.kind:=by
 cases h with
 | fetch _ n hk _=>exact ⟨n,rfl,by omega⟩
 | step _ ts n _ hk _=>exact ⟨n,last_one,by omega⟩
 | where_ _ ts us n _ _ hk _=>exact ⟨n,last_one,by omega⟩
 | join _ ts us n _ _ hk _=>exact ⟨n,last_one,by omega⟩
theorem fits_leaf {b:Nat} {n:Nd} (hk:n.kind=1∨n.kind=14∨n.kind=15) (hl:n.l=[]):Fits b [n]:=by
 have h:Fit b [] 0 n:=by
  refine ⟨by unfold known;omega,?_,fun j a e=>?_,fun a e=>?_,fun _ j a e=>?_,fun a d e=>?_⟩
  ·rw [hl]
   unfold rowsOf condsOf
   rw [if_neg (by omega),if_neg (by omega),if_neg (by omega),if_neg (by omega)]
   rfl
  ·rw [hl] at e;simp at e
  ·rw [hl] at e;simp at e
  ·rw [hl] at e;simp at e
  ·rw [hl] at e;simp at e
 exact fits_last (ms:=[]) (fun i nd hi=>by simp at hi) h
theorem fit_un {b:Nat} {ts:List Nd} {n c:Nd} (h0:0<ts.length) (hc:ts[ts.length-1]?=some c) (hk:(n.kind=13∧11≤c.kind)∨(3≤n.kind∧n.kind≤6∧¬ 11≤c.kind)) (hl:n.l=[b+ts.length-1]):Fit b ts ts.length n:=by
 refine ⟨by unfold known;omega,?_,fun j a e=>?_,fun a e h1 h2 k c' h3 h4 h5=>?_,fun h1 j a e k c' h3 h4 h5=>?_,fun a d e e2=>?_⟩
 ·rw [hl]
  unfold rowsOf condsOf
  rcases hk with ⟨h1,_⟩ | ⟨h1,h2,_⟩
  ·rw [h1];rfl
  ·rw [if_pos (by omega),if_neg (by omega),if_neg (by omega)];rfl
 ·rw [hl] at e
  have hj:j=0:=by
   have:=some_lt e
   simp at this
   exact this
  subst hj
  simp only [List.getElem?_cons_zero,Option.some.injEq] at e
  subst e
  refine ⟨by omega,by omega,c,by rw [show b+ts.length-1-b=ts.length-1 by omega];exact hc,?_⟩
  unfold rowsOf
  rcases hk with ⟨h1,h2⟩ | ⟨h1,h2,h3⟩
  ·rw [if_neg (by omega),if_neg (by omega)];omega
  ·rw [if_pos (by omega)];omega
 ·rw [hl] at e
  simp only [List.getElem?_cons_zero,Option.some.injEq] at e
  omega
 ·rw [hl] at e
  have hj:j=0:=by
   have:=some_lt e
   simp at this
   exact this
  subst hj
  simp only [List.getElem?_cons_zero,Option.some.injEq] at e
  omega
 ·rw [hl] at e2
  simp at e2
theorem fit_bin {b:Nat} {ts us:List Nd} {n c d:Nd} (h0:0<ts.length) (h1:0<us.length) (hc:ts[ts.length-1]?=some c) (hd:us[us.length-1]?=some d)
 (hk:((n.kind=11∨n.kind=12)∧11≤c.kind∧11≤d.kind∧∀ x∈us,11≤x.kind)∨(n.kind=2∧¬ 11≤c.kind∧11≤d.kind∧∀ x∈us,11≤x.kind)∨((n.kind=7∨n.kind=8)∧¬ 11≤c.kind∧¬ 11≤d.kind)) (hl:n.l=[b+ts.length-1,b+ts.length+us.length-1]):Fit b (ts++us) (ts++us).length n:=by
 have e0:(ts++us)[ts.length-1]?=some c:=by rw [List.getElem?_append_left (by omega)];exact hc
 have e1:(ts++us)[ts.length+us.length-1]?=some d:=by rw [List.getElem?_append_right (by omega),show ts.length+us.length-1-ts.length=us.length-1 by omega];exact hd
 refine ⟨by unfold known;omega,?_,fun j a e=>?_,fun a e k1 k2 k c' k3 k4 k5=>?_,fun k1 j a e k c' k3 k4 k5=>?_,fun a d' e e2=>?_⟩
 ·rw [hl]
  unfold rowsOf condsOf
  rcases hk with ⟨h1 | h1,_⟩ | ⟨h1,_⟩ | ⟨h1 | h1,_⟩<;>rw [h1]<;>rfl
 ·rw [hl] at e
  have hj:j=0∨j=1:=by
   have:=some_lt e
   simp at this
   omega
  rw [List.length_append]
  rcases hj with rfl | rfl
  ·simp only [List.getElem?_cons_zero,Option.some.injEq] at e
   subst e
   refine ⟨by omega,by omega,c,by rw [show b+ts.length-1-b=ts.length-1 by omega];exact e0,?_⟩
   unfold rowsOf
   rcases hk with ⟨h1,h2,_⟩ | ⟨h1,h2,_⟩ | ⟨h1,h2,_⟩
   ·rw [if_neg (by omega),if_neg (by omega)];omega
   ·rw [if_pos (by omega)];omega
   ·rw [if_neg (by omega),if_pos (by omega)];omega
  ·simp only [List.getElem?_cons_succ,List.getElem?_cons_zero,Option.some.injEq] at e
   subst e
   refine ⟨by omega,by omega,d,by rw [show b+ts.length+us.length-1-b=ts.length+us.length-1 by omega];exact e1,?_⟩
   unfold rowsOf
   rcases hk with ⟨h1,_,h2,_⟩ | ⟨h1,_,h2,_⟩ | ⟨h1,_,h2⟩
   ·rw [if_neg (by omega),if_neg (by omega)];omega
   ·rw [if_pos (by omega)];omega
   ·rw [if_neg (by omega),if_pos (by omega)];omega
 ·rw [hl] at e
  simp only [List.getElem?_cons_zero,Option.some.injEq] at e
  rcases hk with ⟨h1,_,h2,_⟩ | ⟨h1,_,h2,h3⟩ | ⟨h1,_,h2⟩
  ·omega
  ·rw [List.length_append] at k4
   rw [List.getElem?_append_right (by omega)] at k5
   exact h3 c' (List.mem_of_getElem? k5)
  ·omega
 ·rcases hk with ⟨h1,_,h2,h3⟩ | ⟨h1,_,h2,h3⟩ | ⟨h1,_,h2⟩
  ·rw [List.length_append] at k4
   have hge:ts.length≤k:=by
    rw [hl] at e
    have hj:j=0∨j=1:=by
     have:=some_lt e
     simp at this
     omega
    rcases hj with rfl | rfl
    ·simp only [List.getElem?_cons_zero,Option.some.injEq] at e
     omega
    ·simp only [List.getElem?_cons_succ,List.getElem?_cons_zero,Option.some.injEq] at e
     omega
   rw [List.getElem?_append_right hge] at k5
   exact h3 c' (List.mem_of_getElem? k5)
  ·omega
  ·omega
 ·rw [hl] at e e2
  simp only [List.getElem?_cons_zero,List.getElem?_cons_succ,Option.some.injEq] at e e2
  omega
theorem fits_ct {b:Nat} {ms:List Nd} (h:CT b ms):Fits b ms:=by
 induction h with
 | leaf b n hk hl=>exact fits_leaf (by omega) hl
 | un b ts n h hk hl ih =>
   obtain ⟨c,hc,hk2⟩:=ct_last h
   exact fits_last ih (fit_un (ct_ne h) hc (.inl ⟨hk,hk2⟩) hl)
 | bin b ts us n h k hk hl i1 i2 =>
   obtain ⟨c,hc,hk2⟩:=ct_last h
   obtain ⟨d,hd,hk3⟩:=ct_last k
   exact fits_last (fits_app i1 i2) (fit_bin (ct_ne h) (ct_ne k) hc hd (.inl ⟨hk,hk2,hk3,ct_kinds k⟩) hl)
theorem fits_qt {b:Nat} {ms:List Nd} (h:QT b ms):Fits b ms:=by
 induction h with
 | fetch b n hk hl=>exact fits_leaf (.inl hk) hl
 | step b ts n h hk hl ih =>
   obtain ⟨c,hc,hk2⟩:=qt_last h
   exact fits_last ih (fit_un (qt_ne h) hc (.inr ⟨by omega,by omega,hk2⟩) hl)
 | where_ b ts us n h k hk hl ih =>
   obtain ⟨c,hc,hk2⟩:=qt_last h
   obtain ⟨d,hd,hk3⟩:=ct_last k
   exact fits_last (fits_app ih (fits_ct k)) (fit_bin (qt_ne h) (ct_ne k) hc hd (.inr (.inl ⟨hk,hk2,hk3,ct_kinds k⟩)) hl)
 | join b ts us n h k hk hl i1 i2 =>
   obtain ⟨c,hc,hk2⟩:=qt_last h
   obtain ⟨d,hd,hk3⟩:=qt_last k
   exact fits_last (fits_app i1 i2) (fit_bin (qt_ne h) (qt_ne k) hc hd (.inr (.inr ⟨hk,hk2,hk3⟩)) hl)
end Go.Proofs.YtnaehhpikhlppaaGreatDoor.ParS
