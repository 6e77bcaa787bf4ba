/- Several texts of the proof, joined. -/
import Derived.Test.YtnaehhpikhlppaaGreatDoorE27
import Derived.Test.YtnaehhpikhlppaaGreatDoorE20
import Derived.Test.YtnaehhpikhlppaaGreatDoorE21
set_option maxHeartbeats 4000000
set_option maxRecDepth 100000
set_option linter.unusedVariables false
set_option linter.unusedSimpArgs false
namespace Go.Proofs.YtnaehhpikhlppaaGreatDoor
open Go.RowKit LexS ParS BigFrame
attribute [local go_sem] World.cell?_alloc_some
theorem aggT_len (a:Nat×Bytes):(aggT a).length≤2:=by
 unfold aggT
 split<;>simp
theorem aggsF_len:∀ r:List (Nat×Bytes),((r.map aggT).flatMap fun y=>sg kw_comma::y).length≤3*r.length
 | []=>Nat.zero_le _
 | a::r=>by
   have h1:=aggT_len a
   have h2:=aggsF_len r
   simp only [List.map_cons,List.flatMap_cons,List.length_append,List.length_cons]
   omega
theorem aggsT_len (r:List (Nat×Bytes)):(aggsT r).length≤3*r.length:=by
 cases r with
 | nil=>exact Nat.zero_le _
 | cons a r =>
   have h1:=aggT_len a
   have h2:=aggsF_len r
   show (aggT a++(r.map aggT).flatMap fun y=>sg kw_comma::y).length≤_
   rw [List.length_append,List.length_cons]
   omega
theorem aggs_next {gs:List (Nat×Bytes)} {k:Nat} {x:Nat×Bytes} (hx:gs[k]?=some x):aggsT (gs.take (k+1))=(if k=0 then aggsT (gs.take k) else aggsT (gs.take k)++[sg kw_comma])++aggT x:=by
 rw [List.take_add_one,hx]
 by_cases h0:k=0
 ·subst h0
  show aggsT [x]=[]++aggT x
  show aggT x++[]=[]++aggT x
  simp
 ·rw [if_neg h0]
  have hlt:=(List.getElem?_eq_some_iff.1 hx).1
  have hne:(gs.take k).map aggT ≠ []:=by
   intro e
   have:=congrArg List.length e
   rw [List.length_map,List.length_take] at this
   have h9:min k gs.length=0:=this
   omega
  show sep ((gs.take k++[x]).map aggT)=_
  rw [List.map_append]
  exact sep_app hne (aggT x)
theorem agg_box2 {wr w5:World} {k:Nat} {c:Bytes} (h:wr.alloc (.cells #[.int .i64 (k:Int),.string (BA c)] 85)=w5) :
 Below wr.heap.size wr w5∧Blk w5 wr.heap.size 85 #[.int .i64 (k:Int),.string (BA c)]:=by
 subst h
 exact ⟨(Below.refl _ _).alloc (Nat.le_refl _) _,Blk.new wr 85 _⟩
section
variable {ns:List Nd} {g cap i:Nat}
theorem lrow_group {a:Nat} {t1:List Tk} {l:List Bytes} {gs:List (Nat×Bytes)} (hi:ns[i]?=some {node 5 [a] with names:=l,aggs:=gs}) (hx:a<i) (hag:∀ x∈gs,AggOk x) (rec:LineR ns g cap a t1):LineR ns g cap i (t1++[sg kw_bar,wd (stepW 5)]++namesT l++[sg kw_colon]++aggsT gs):=by
 intro w0 W lv T hn h hT
 obtain ⟨m,b,hm,hmk,hr,_,hml⟩:=nr_rangeP hn hi
 have hlt:i<ns.length:=(List.getElem?_eq_some_iff.1 hi).1
 simp only [maxLen] at hml
 have a0:(0:Int)≤(i:Int):=by omega
 have a1:(i:Int)<(ns.length:Int):=by omega
 have a2:¬ (i:Int)<0:=by omega
 have a2':decide ((i:Int)<0)=false:=decide_eq_false a2
 have hone:=hmk.onesP
 have HR:=Lib.hid (range_kept h.below hr)
 have hth:=nd_there W
 have HS:=Lib.hid (fun w4 h4=>nd_stored (w3:=W) (w4:=w4) (m:=m) h4)
 have HM:=Lib.hid hm
 have HMK:=Lib.hid hmk
 have HN:=Lib.hid hn
 have HI:=Lib.hid hi
 have H0:=Lib.hid h
 have c0:W.cell? ⟨w0.heap.size,0,none⟩=some (.slice (some ⟨g,0,none⟩) ns.length cap):=h.box.cell 0
 have c2:W.cell? ⟨w0.heap.size,2,none⟩=some (.bool false):=h.box.cell 2
 unfold LineR at rec
 have HREC:=Lib.hid rec
 have HX:=Lib.hid hx
 have hl2:T.length+(t1.length+(namesT l).length+(aggsT gs).length+3)≤1100:=by simp at hT;omega
 have hnm:m.node.names=l:=by rw [hm]
 have ham:m.node.aggs=gs:=by rw [hm]
 have hnr:=hmk.names
 have har:=hmk.aggs
 rw [hnm] at hnr
 rw [ham] at har
 have HNR:=Lib.hid hnr
 have hl3:l.length≤1100:=by have:=names_len l;omega
 have hg3:gs.length≤1100:=by have:=aggs_len gs;omega
 obtain ⟨pn,cn,hnv,_,_,_⟩:=row_cells hnr
 obtain ⟨pa,ca,hav,_,_,hac⟩:=row_cells har
 have hga:∀ W',Below w0.heap.size w0 W'→∀ (k:Nat) (x:Nat×Bytes),gs[k]?=some x→∃ q,pa=some ⟨q,0,none⟩∧W'.cell? ⟨q,k*2,none⟩=some (.int .i64 (x.1:Int))∧W'.cell? ⟨q,k*2+1,none⟩=some (.string (BA x.2)):=by
  intro W' hb k x hx
  obtain ⟨q,hq,hc⟩:=hac (by have:=(List.getElem?_eq_some_iff.1 hx).1;omega)
  exact ⟨q,hq,keepc hb (hc _ _ (aggsL_get _ _ _ hx).1),keepc hb (hc _ _ (aggsL_get _ _ _ hx).2)⟩
 have HGA:=Lib.hid hga
 have HAG:=Lib.hid hag
 have HNV:=Lib.hid hnv
 have HAV:=Lib.hid hav
 clear rec hT hx hnm ham hnr har hnv hav hac hga hag
 clear hi hn hm hmk hr h hml
 go_enter Tryz.func46,Tryz.ntmps46
 go_wp2_with (first
  | (refine wpList_load_mid (by rfl) 42 (.tmp 22) (by rfl) g (i*19) (by rfl) m.cells _ HR.out undNode (by rfl) sizeNode ?_)
  | (refine wpList_store_mid (by rfl) 42 (.tmp 4) (.tmp 23) (by rfl) W.heap.size 0 m.cells.toArray (by rfl) (by rfl) hth sizeNode hone ?_
     generalize hw4:World.setCells _ _ _ _=w4
     obtain ⟨hb4,hk4⟩:=HS.out w4 hw4
     have H4:=Lib.hid (H0.out.kept hb4)
     have K4:=Lib.hid hk4
     have S4:=Lib.hid (show Stp w0.heap.size lv W lv w4 from Stp.of hb4)
     have k4:w4.cell? ⟨W.heap.size,0,none⟩=some (.int .i64 (5:Int)):=by have:=hk4.cell 0;rw [show m.cells.toArray[0]?=some (.int .i64 (m.node.kind:Int)) from rfl,HM.out] at this;exact this
     clear hw4 hb4 hk4 hth hone c0 c2))
 refine (below_r (k:=0) (x:=a) H4.out (by omega) HN.out HI.out rfl HX.out).mono ?_
 rintro e w5 ⟨rfl,rfl⟩
 go_wp2_with fail
 refine (HREC.out _ _ _ _ HN.out H4.out (by omega)).mono ?_
 rintro e w6 ⟨rfl,lv6,h6,s6⟩
 have H6:=Lib.hid h6
 have S6:=Lib.hid (Stp.trans S4.out s6)
 have K6:=Lib.hid (H4.out.keep s6 K4.out (by decide) (by decide))
 clear h6 s6
 clear k4
 go_wp2_with fail
 refine (sign_r kw_bar H6.out (by simp only [List.length_append,List.length_cons,List.length_nil];omega)).mono ?_
 rintro e w7 ⟨rfl,lv7,h7,s7⟩
 have H7:=Lib.hid h7
 have S7:=Lib.hid (Stp.trans S6.out s7)
 have K7:=Lib.hid (H6.out.keep s7 K6.out (by decide) (by decide))
 have y7_0:w7.cell? ⟨W.heap.size,0,none⟩=some (.int .i64 (5:Int)):=by have:=K7.out.cell 0;rw [show m.cells.toArray[0]?=some (.int .i64 (m.node.kind:Int)) from rfl,HM.out] at this;exact this
 clear h7 s7
 obtain ⟨w8,hw8⟩:∃ w8,w7.alloc (.cells #[.string ⟨#[]⟩,.string ⟨#[]⟩,.string ⟨#[119,104,101,114,101]⟩,.string ⟨#[107,101,101,112]⟩,.string ⟨#[97,108,105,103,110]⟩,.string ⟨#[103,114,111,117,112]⟩,.string ⟨#[116,111,112]⟩,.string ⟨#[106,111,105,110]⟩,.string ⟨#[117,110,105,111,110]⟩] 9)=w8:=⟨_,rfl⟩
 obtain ⟨hb8,hx8⟩:=strs_box hw8
 have H8:=Lib.hid (H7.out.kept hb8)
 have K8:=Lib.hid (K7.out.kept hb8)
 have S8:=Lib.hid (Stp.trans S7.out (Stp.of hb8))
 have HW8:=Lib.hid hw8
 clear hw8 hb8 hx8
 go_wp2_with fail
 rw [HW8.out]
 refine (word_r (stepW 5) H8.out (by simp only [List.length_append,List.length_cons,List.length_nil];omega)).mono ?_
 rintro e w9 ⟨rfl,lv9,h9,s9⟩
 have H9:=Lib.hid h9
 have S9:=Lib.hid (Stp.trans S8.out s9)
 have K9:=Lib.hid (H8.out.keep s9 K8.out (by decide) (by decide))
 have y9_0:w9.cell? ⟨W.heap.size,0,none⟩=some (.int .i64 (5:Int)):=by have:=K9.out.cell 0;rw [show m.cells.toArray[0]?=some (.int .i64 (m.node.kind:Int)) from rfl,HM.out] at this;exact this
 have y9_17:w9.cell? ⟨W.heap.size,17,none⟩=some (.slice pn l.length cn):=(K9.out.cell 17).trans (congrArg some HNV.out)
 clear h9 s9
 clear y7_0
 go_wp2_with fail
 have hls:=list_r HNR.out hl3 H9.out (by simp only [List.length_append,List.length_cons,List.length_nil];omega)
 rw [HNV.out] at hls
 refine (hls).mono ?_
 rintro e w10 ⟨rfl,lv10,h10,s10⟩
 have H10:=Lib.hid h10
 have S10:=Lib.hid (Stp.trans S9.out s10)
 have K10:=Lib.hid (H9.out.keep s10 K9.out (by decide) (by decide))
 clear h10 s10
 clear y9_0 y9_17 hls
 go_wp2_with fail
 refine (sign_r kw_colon H10.out (by simp only [List.length_append,List.length_cons,List.length_nil];omega)).mono ?_
 rintro e w11 ⟨rfl,lv11,h11,s11⟩
 have H11:=Lib.hid h11
 have S11:=Lib.hid (Stp.trans S10.out s11)
 have K11:=Lib.hid (H10.out.keep s11 K10.out (by decide) (by decide))
 clear h11 s11
 obtain ⟨w12,hw12⟩:∃ w12,w11.alloc (.cells #[.string ⟨#[]⟩,.string ⟨#[99,111,117,110,116]⟩,.string ⟨#[115,117,109]⟩,.string ⟨#[109,105,110]⟩,.string ⟨#[109,97,120]⟩,.string ⟨#[109,101,97,110]⟩,.string ⟨#[109,101,114,103,101]⟩] 9)=w12:=⟨_,rfl⟩
 obtain ⟨hb12,hx12⟩:=strs_box hw12
 have H12:=Lib.hid (H11.out.kept hb12)
 have K12:=Lib.hid (K11.out.kept hb12)
 have S12:=Lib.hid (Stp.trans S11.out (Stp.of hb12))
 have X12:=Lib.hid hx12
 have HW12:=Lib.hid hw12
 obtain ⟨ab,hab⟩:∃ ab,ab=w11.heap.size:=⟨_,rfl⟩
 rw [← hab] at X12
 obtain ⟨T3,hT3⟩:∃ T3,T3=T++t1++[sg kw_bar]++[wd (stepW 5)]++namesT l++[sg kw_colon]:=⟨_,rfl⟩
 have H12:_:=H12
 rw [← hT3] at H12
 have hl12:T3.length≤1100:=by rw [hT3];simp only [List.length_append,List.length_cons,List.length_nil];omega
 have HT3:=Lib.hid hT3
 have HAB:=Lib.hid hab
 clear hw12 hb12 hx12 hT3 hab
 go_wp2_with fail
 rw [HW12.out,← HAB.out]
 go_loopg [7] (gs.length+1) (fun gk c wr => ∃ (k:Nat) (lv':Value),k≤gs.length∧gs.length<k+gk∧c=.int .i64 (k:Int)∧LN w0 (.slice (some ⟨g,0,none⟩) ns.length cap) lv' (T3++aggsT (gs.take k)) wr∧Stp w0.heap.size lv W lv' wr∧Blk wr W.heap.size 42 m.cells.toArray∧Blk wr ab 9 #[.string ⟨#[]⟩,.string ⟨#[99,111,117,110,116]⟩,.string ⟨#[115,117,109]⟩,.string ⟨#[109,105,110]⟩,.string ⟨#[109,97,120]⟩,.string ⟨#[109,101,97,110]⟩,.string ⟨#[109,101,114,103,101]⟩])
 case atStart=>exact ⟨0,lv11,Nat.zero_le _,by omega,rfl,by rw [List.take_zero];show LN w0 (.slice (some ⟨g,0,none⟩) ns.length cap) lv11 (T3++[]) w12;rw [List.append_nil];exact H12.out,S12.out,K12.out,X12.out⟩
 case round =>
  obtain ⟨k,lv',hk,hgk,rfl,hln,hst,hkk,hxx⟩:=hrel
  have HLN:=Lib.hid hln
  have HST:=Lib.hid hst
  have HKK:=Lib.hid hkk
  have HXX:=Lib.hid hxx
  have z18:wr.cell? ⟨W.heap.size,18,none⟩=some (.slice pa gs.length ca):=(hkk.cell 18).trans (congrArg some HAV.out)
  have hlen:=aggsT_len (gs.take k)
  rw [List.length_take] at hlen
  have n2:(0:Int)≤(k:Int):=by omega
  clear hln hst hkk hxx
  by_cases hlt:k<gs.length
  ·obtain ⟨x,hx⟩:∃ x,gs[k]?=some x:=⟨gs[k],List.getElem?_eq_getElem hlt⟩
   obtain ⟨ak,ac⟩:=x
   have hak:1≤ak∧ak≤6:=by
    rcases HAG.out (ak,ac) (List.mem_of_getElem? hx) with e | ⟨e1,e2⟩
    ·have:=congrArg Prod.fst e
     dsimp only at this
     omega
    ·exact ⟨Nat.le_trans (by omega) e1,e2⟩
   have HAW:=Lib.hid (show (#[.string ⟨#[]⟩,.string ⟨#[99,111,117,110,116]⟩,.string ⟨#[115,117,109]⟩,.string ⟨#[109,105,110]⟩,.string ⟨#[109,97,120]⟩,.string ⟨#[109,101,97,110]⟩,.string ⟨#[109,101,114,103,101]⟩]:Array Value)[ak]?=some (.string (BA (aggW ak))) by
    have:ak=1∨ak=2∨ak=3∨ak=4∨ak=5∨ak=6:=by omega
    rcases this with rfl | rfl | rfl | rfl | rfl | rfl<;>rfl)
   have HNX:=Lib.hid (aggs_next hx)
   have HGX:=Lib.hid (fun W' hb=>HGA.out W' hb k (ak,ac) hx)
   have n1:(k:Int)<(gs.length:Int):=by omega
   have n3:decide ((k:Int)<(gs.length:Int))=true:=decide_eq_true n1
   have w1_:IntKind.i64.wrap ((k:Int)+1)=(k:Int)+1:=IntWalk.i64_in _ (by omega)
   have b1:(0:Int)≤(ak:Int):=by omega
   have b2:(ak:Int)<7:=by omega
   have b3:¬ (ak:Int)<1:=by omega
   have b3':decide ((ak:Int)<1)=false:=decide_eq_false b3
   have b4:¬ (6:Int)<(ak:Int):=by omega
   have b4':decide ((6:Int)<(ak:Int))=false:=decide_eq_false b4
   clear hx
   by_cases h0:k=0
   ·subst h0
    have HQ:=HLN
    have SQ:=HST
    have KQ:=HKK
    have XQ:=HXX
    obtain ⟨wq,hwq⟩:∃ wq,wq=wr:=⟨_,rfl⟩
    subst hwq
    obtain ⟨q,hpq,u1,u2⟩:=HGX.out wq HQ.out.below
    subst hpq
    (try dsimp only at u1 u2)
    go_upto_region 33 with fail
    generalize hw13:World.alloc _ _=w13
    obtain ⟨hb13,hx13⟩:=agg_box2 hw13
    have H13:=Lib.hid (HQ.out.kept hb13)
    have K13:=Lib.hid (KQ.out.kept hb13)
    have X13:=Lib.hid (XQ.out.kept hb13)
    have S13:=Lib.hid (Stp.trans SQ.out (Stp.of hb13))
    have A13:=Lib.hid hx13
    have e0:w13.cell? ⟨wq.heap.size,0,none⟩=some (.int .i64 (ak:Int)):=hx13.cell 0
    have xa:w13.cell? ⟨ab,ak,none⟩=some (.string (BA (aggW ak))):=(X13.out.cell ak).trans HAW.out
    clear hw13 hb13 hx13 u1 u2 z18
    go_wp2_with fail
    refine (word_r (aggW ak) H13.out (by simp only [List.length_append,List.length_cons,List.length_nil];omega)).mono ?_
    rintro e w14 ⟨rfl,lv14,h14,s14⟩
    have H14:=Lib.hid h14
    have S14:=Lib.hid (Stp.trans S13.out s14)
    have K14:=Lib.hid (H13.out.keep s14 K13.out (by decide) (by decide))
    have X14:=Lib.hid (H13.out.keep s14 X13.out (by decide) (by decide))
    have A14:=Lib.hid (H13.out.keep s14 A13.out (by decide) (by decide))
    have e1:w14.cell? ⟨wq.heap.size,0,none⟩=some (.int .i64 (ak:Int)):=A14.out.cell 0
    have e2:w14.cell? ⟨wq.heap.size,1,none⟩=some (.string (BA ac)):=A14.out.cell 1
    clear h14 s14 e0 xa
    by_cases h1:ak=1
    ·have d1:¬ (1:Int)<(ak:Int):=by omega
     have d2:decide ((1:Int)<(ak:Int))=false:=decide_eq_false d1
     have HFT:=Lib.hid (show aggsT (gs.take (0+1))=aggsT (gs.take 0)++[wd (aggW ak)] by
      rw [HNX.out,if_pos trivial]
      congr 1
      rw [h1]
      rfl)
     clear h1
     go_wp2_with fail
     go_roundg (gs.length-0)
     case measure=>omega
     case rel=>exact ⟨0+1,lv14,by omega,by omega,rfl,by have h9:=H14.out;rw [HFT.out];simp only [List.append_assoc] at h9 ⊢;exact h9,S14.out,K14.out,X14.out⟩
    ·have d1:(1:Int)<(ak:Int):=by omega
     have d2:decide ((1:Int)<(ak:Int))=true:=decide_eq_true d1
     have HFT:=Lib.hid (show aggsT (gs.take (0+1))=aggsT (gs.take 0)++[wd (aggW ak)]++[wd ac] by
      have hT:aggT (ak,ac)=[wd (aggW ak),wd ac]:=by
       unfold aggT
       rw [if_neg h1]
      rw [HNX.out,if_pos trivial,hT]
      simp)
     clear h1
     go_wp2_with fail
     refine (word_r ac H14.out (by simp only [List.length_append,List.length_cons,List.length_nil];omega)).mono ?_
     rintro e w15 ⟨rfl,lv15,h15,s15⟩
     have H15:=Lib.hid h15
     have S15:=Lib.hid (Stp.trans S14.out s15)
     have K15:=Lib.hid (H14.out.keep s15 K14.out (by decide) (by decide))
     have X15:=Lib.hid (H14.out.keep s15 X14.out (by decide) (by decide))
     clear h15 s15 e1 e2
     go_wp2_with fail
     go_roundg (gs.length-0)
     case measure=>omega
     case rel=>exact ⟨0+1,lv15,by omega,by omega,rfl,by have h9:=H15.out;rw [HFT.out];simp only [List.append_assoc] at h9 ⊢;exact h9,S15.out,K15.out,X15.out⟩
   ·have H0K:=Lib.hid h0
    have c1:(0:Int)<(k:Int):=by omega
    have c2:decide ((0:Int)<(k:Int))=true:=decide_eq_true c1
    clear h0
    go_wp2_with fail
    refine (sign_r kw_comma HLN.out (by simp only [List.length_append,List.length_cons,List.length_nil];omega)).mono ?_
    rintro e wq ⟨rfl,lvq,hq,sq⟩
    have HQ:=Lib.hid (show LN w0 (.slice (some ⟨g,0,none⟩) ns.length cap) lvq (T3++(aggsT (gs.take k)++[sg kw_comma])) wq by rw [← List.append_assoc];exact hq)
    have SQ:=Lib.hid (Stp.trans HST.out sq)
    have KQ:=Lib.hid (HLN.out.keep sq HKK.out (by decide) (by decide))
    have XQ:=Lib.hid (HLN.out.keep sq HXX.out (by decide) (by decide))
    have zq18:wq.cell? ⟨W.heap.size,18,none⟩=some (.slice pa gs.length ca):=(KQ.out.cell 18).trans (congrArg some HAV.out)
    clear hq sq z18
    obtain ⟨q,hpq,u1,u2⟩:=HGX.out wq HQ.out.below
    subst hpq
    (try dsimp only at u1 u2)
    go_upto_region 33 with fail
    generalize hw13:World.alloc _ _=w13
    obtain ⟨hb13,hx13⟩:=agg_box2 hw13
    have H13:=Lib.hid (HQ.out.kept hb13)
    have K13:=Lib.hid (KQ.out.kept hb13)
    have X13:=Lib.hid (XQ.out.kept hb13)
    have S13:=Lib.hid (Stp.trans SQ.out (Stp.of hb13))
    have A13:=Lib.hid hx13
    have e0:w13.cell? ⟨wq.heap.size,0,none⟩=some (.int .i64 (ak:Int)):=hx13.cell 0
    have xa:w13.cell? ⟨ab,ak,none⟩=some (.string (BA (aggW ak))):=(X13.out.cell ak).trans HAW.out
    clear hw13 hb13 hx13 u1 u2 zq18
    go_wp2_with fail
    refine (word_r (aggW ak) H13.out (by simp only [List.length_append,List.length_cons,List.length_nil];omega)).mono ?_
    rintro e w14 ⟨rfl,lv14,h14,s14⟩
    have H14:=Lib.hid h14
    have S14:=Lib.hid (Stp.trans S13.out s14)
    have K14:=Lib.hid (H13.out.keep s14 K13.out (by decide) (by decide))
    have X14:=Lib.hid (H13.out.keep s14 X13.out (by decide) (by decide))
    have A14:=Lib.hid (H13.out.keep s14 A13.out (by decide) (by decide))
    have e1:w14.cell? ⟨wq.heap.size,0,none⟩=some (.int .i64 (ak:Int)):=A14.out.cell 0
    have e2:w14.cell? ⟨wq.heap.size,1,none⟩=some (.string (BA ac)):=A14.out.cell 1
    clear h14 s14 e0 xa
    by_cases h1:ak=1
    ·have d1:¬ (1:Int)<(ak:Int):=by omega
     have d2:decide ((1:Int)<(ak:Int))=false:=decide_eq_false d1
     have HFT:=Lib.hid (show aggsT (gs.take (k+1))=aggsT (gs.take k)++[sg kw_comma]++[wd (aggW ak)] by
      rw [HNX.out,if_neg H0K.out]
      congr 1
      rw [h1]
      rfl)
     clear h1
     go_wp2_with fail
     go_roundg (gs.length-k)
     case measure=>omega
     case rel=>exact ⟨k+1,lv14,by omega,by omega,rfl,by have h9:=H14.out;rw [HFT.out];simp only [List.append_assoc] at h9 ⊢;exact h9,S14.out,K14.out,X14.out⟩
    ·have d1:(1:Int)<(ak:Int):=by omega
     have d2:decide ((1:Int)<(ak:Int))=true:=decide_eq_true d1
     have HFT:=Lib.hid (show aggsT (gs.take (k+1))=aggsT (gs.take k)++[sg kw_comma]++[wd (aggW ak)]++[wd ac] by
      have hT:aggT (ak,ac)=[wd (aggW ak),wd ac]:=by
       unfold aggT
       rw [if_neg h1]
      rw [HNX.out,if_neg H0K.out,hT]
      simp)
     clear h1
     go_wp2_with fail
     refine (word_r ac H14.out (by simp only [List.length_append,List.length_cons,List.length_nil];omega)).mono ?_
     rintro e w15 ⟨rfl,lv15,h15,s15⟩
     have H15:=Lib.hid h15
     have S15:=Lib.hid (Stp.trans S14.out s15)
     have K15:=Lib.hid (H14.out.keep s15 K14.out (by decide) (by decide))
     have X15:=Lib.hid (H14.out.keep s15 X14.out (by decide) (by decide))
     clear h15 s15 e1 e2
     go_wp2_with fail
     go_roundg (gs.length-k)
     case measure=>omega
     case rel=>exact ⟨k+1,lv15,by omega,by omega,rfl,by have h9:=H15.out;rw [HFT.out];simp only [List.append_assoc] at h9 ⊢;exact h9,S15.out,K15.out,X15.out⟩
  ·have hkl:k=gs.length:=by omega
   have n1:¬ (k:Int)<(gs.length:Int):=by omega
   have n3:decide ((k:Int)<(gs.length:Int))=false:=decide_eq_false n1
   have HF:=Lib.hid (show LN w0 (.slice (some ⟨g,0,none⟩) ns.length cap) lv' (T3++aggsT gs) wr by have:=HLN.out;rwa [hkl,List.take_length] at this)
   clear hkl
   go_wp2_with fail
   exact bodyPost_end (v:=.tuple #[]) (results_none rfl _ _ _) rfl ⟨rfl,lv',by have h9:=HF.out;rw [HT3.out] at h9;simp only [List.append_assoc,List.cons_append,List.nil_append] at h9 ⊢;exact h9,HST.out⟩
end
theorem lrow_any (ns:List Nd) (g cap:Nat):∀ (q:Qr) (b:Nat),q.Ok→At ns b (q.flat b)→LineR ns g cap (b+q.len-1) q.tok
 | .fetch s f t,b,h,ha=>by
   by_cases h0:f=0∧t=1099511627775
   ·obtain ⟨rfl,rfl⟩:=h0
    have e:Qr.tok (.fetch s 0 1099511627775)=[wd kw_fetch,wd s]:=by
     rw [Qr.tok,if_pos ⟨rfl,rfl⟩,List.append_nil]
    rw [e]
    exact lrow_all ha.one
   ·have e:Qr.tok (.fetch s f t)=[wd kw_fetch,wd s]++[wd kw_from,nm f,wd kw_to,nm t]:=by
     rw [Qr.tok,if_neg h0]
    rw [e]
    by_cases hf:f=0
    ·subst hf
     exact lrow_to (fun e=>h0 ⟨rfl,e⟩) ha.one
    ·exact lrow_from hf ha.one
 | .where_ q c,b,h,ha=>by
   have ih1:=lrow_any ns g cap q b h.1 ha.left.left
   have ha2:=ha.left.right
   rw [Qr.flat_len] at ha2
   have ih2:=lcond_any ns g cap c (b+q.len) 0 h.2 ha2
   have hi:=ha.right.one
   rw [List.length_append,Qr.flat_len,Cd.flat_len,← Nat.add_assoc] at hi
   have hp:=q.pos
   have hc:=c.pos
   have e:b+Qr.len (.where_ q c)-1=b+q.len+c.len:=by show b+(q.len+c.len+1)-1=_;omega
   rw [e]
   exact lrow_where hi (by omega) (by omega) ih1 ih2
 | .keep q l,b,h,ha=>by
   have ih:=lrow_any ns g cap q b h.1 ha.left
   have hi:=ha.right.one
   rw [Qr.flat_len] at hi
   have hp:=q.pos
   have e:b+Qr.len (.keep q l)-1=b+q.len:=by show b+(q.len+1)-1=_;omega
   rw [e]
   exact lrow_keep hi (by omega) ih
 | .align q n,b,h,ha=>by
   have ih:=lrow_any ns g cap q b h ha.left
   have hi:=ha.right.one
   rw [Qr.flat_len] at hi
   have hp:=q.pos
   have e:b+Qr.len (.align q n)-1=b+q.len:=by show b+(q.len+1)-1=_;omega
   rw [e]
   exact lrow_align hi (by omega) ih
 | .group q l gs,b,h,ha=>by
   have ih:=lrow_any ns g cap q b h.1 ha.left
   have hi:=ha.right.one
   rw [Qr.flat_len] at hi
   have hp:=q.pos
   have e:b+Qr.len (.group q l gs)-1=b+q.len:=by show b+(q.len+1)-1=_;omega
   rw [e]
   exact lrow_group hi (by omega) h.2.2.2 ih
 | .top q n s,b,h,ha=>by
   have ih:=lrow_any ns g cap q b h ha.left
   have hi:=ha.right.one
   rw [Qr.flat_len] at hi
   have hp:=q.pos
   have e:b+Qr.len (.top q n s)-1=b+q.len:=by show b+(q.len+1)-1=_;omega
   rw [e]
   exact lrow_top hi (by omega) ih
 | .join q r,b,h,ha=>by
   have ih1:=lrow_any ns g cap q b h.1 ha.left.left
   have ha2:=ha.left.right
   rw [Qr.flat_len] at ha2
   have ih2:=lrow_any ns g cap r (b+q.len) h.2 ha2
   have hi:=ha.right.one
   rw [List.length_append,Qr.flat_len,Qr.flat_len,← Nat.add_assoc] at hi
   have hp:=q.pos
   have hc:=r.pos
   have e:b+Qr.len (.join q r)-1=b+q.len+r.len:=by show b+(q.len+r.len+1)-1=_;omega
   rw [e]
   exact lrow_join hi (by omega) (by omega) ih1 ih2
 | .union q r,b,h,ha=>by
   have ih1:=lrow_any ns g cap q b h.1 ha.left.left
   have ha2:=ha.left.right
   rw [Qr.flat_len] at ha2
   have ih2:=lrow_any ns g cap r (b+q.len) h.2 ha2
   have hi:=ha.right.one
   rw [List.length_append,Qr.flat_len,Qr.flat_len,← Nat.add_assoc] at hi
   have hp:=q.pos
   have hc:=r.pos
   have e:b+Qr.len (.union q r)-1=b+q.len+r.len:=by show b+(q.len+r.len+1)-1=_;omega
   rw [e]
   exact lrow_union hi (by omega) (by omega) ih1 ih2
end Go.Proofs.YtnaehhpikhlppaaGreatDoor

namespace Go.Proofs.YtnaehhpikhlppaaGreatDoor
open Go.RowKit LexS ParS BigFrame
attribute [local go_sem] eqZero
theorem eq_ints {W:World} {b1 b2:Nat} {l:List (Nat)} {v1 v2:Value} (h1:W.ownsRow b1 3 1 v1 l.length (intsL l)) (h2:W.ownsRow b2 3 1 v2 l.length (intsL l)) (W0:World) (hd:Below W.heap.size W W0) :
 Calls Tryz.prog 54 #[v1,v2] W0 fun e W'=>e=.returned (.bool true)∧Drawn W0 W':=by
 obtain ⟨p1,c1,rfl,_,q2,q3⟩:=row_cells (own_kept h1 hd)
 obtain ⟨p2,c2,rfl,_,r2,r3⟩:=row_cells (own_kept h2 hd)
 have H1:=Lib.hid q3
 have H2:=Lib.hid r3
 simp only [maxLen] at q2
 clear h1 h2 q3 r3 hd r2
 go_enter Tryz.func54,Tryz.ntmps54
 go_wp2_with fail
 go_loopg [13] (l.length+1) (fun gk c wr => ∃ i:Nat,i≤l.length∧l.length<i+gk∧c=.int .i64 (i:Int)∧Drawn W0 wr)
 case atStart=>exact ⟨0,Nat.zero_le _,by omega,rfl,0,rfl⟩
 case round =>
  obtain ⟨i,hi,hgk,rfl,k,rfl⟩:=hrel
  by_cases hlt:i<l.length
  ·obtain ⟨g,rfl,hg⟩:=H1.out (by omega)
   obtain ⟨g2,rfl,hg2⟩:=H2.out (by omega)
   obtain ⟨x_,hx_⟩:∃ x,l[i]?=some x:=⟨l[i],List.getElem?_eq_getElem hlt⟩
   have u1:=hg _ _ (intsL_get hx_)
   have u2:=hg2 _ _ (intsL_get hx_)
   have n1:(i:Int)<(l.length:Int):=by omega
   have n2:(0:Int)≤(i:Int):=by omega
   have n3:decide ((i:Int)<(l.length:Int))=true:=decide_eq_true n1
   have w1_:IntKind.i64.wrap ((i:Int)+1)=(i:Int)+1:=IntWalk.i64_in _ (by omega)
   clear hg hg2 hx_
   go_wp2_with fail
   go_region
   go_wp2_with fail
   go_roundg (l.length-i)
   case measure=>omega
   case rel=>exact ⟨i+1,by omega,by omega,rfl,Drawn.more ⟨k,rfl⟩ 1⟩
  ·have n1:¬ (i:Int)<(l.length:Int):=by omega
   have n3:decide ((i:Int)<(l.length:Int))=false:=decide_eq_false n1
   go_wp2_with fail
   exact bodyPost_ret (results_tmp rfl _ _ _) rfl ⟨rfl,k,rfl⟩
theorem eq_strs {W:World} {b1 b2:Nat} {l:List (Bytes)} {v1 v2:Value} (h1:W.ownsRow b1 9 1 v1 l.length (strsL l)) (h2:W.ownsRow b2 9 1 v2 l.length (strsL l)) (W0:World) (hd:Below W.heap.size W W0) :
 Calls Tryz.prog 55 #[v1,v2] W0 fun e W'=>e=.returned (.bool true)∧Drawn W0 W':=by
 obtain ⟨p1,c1,rfl,_,q2,q3⟩:=row_cells (own_kept h1 hd)
 obtain ⟨p2,c2,rfl,_,r2,r3⟩:=row_cells (own_kept h2 hd)
 have H1:=Lib.hid q3
 have H2:=Lib.hid r3
 simp only [maxLen] at q2
 clear h1 h2 q3 r3 hd r2
 go_enter Tryz.func55,Tryz.ntmps55
 go_wp2_with fail
 go_loopg [13] (l.length+1) (fun gk c wr => ∃ i:Nat,i≤l.length∧l.length<i+gk∧c=.int .i64 (i:Int)∧Drawn W0 wr)
 case atStart=>exact ⟨0,Nat.zero_le _,by omega,rfl,0,rfl⟩
 case round =>
  obtain ⟨i,hi,hgk,rfl,k,rfl⟩:=hrel
  by_cases hlt:i<l.length
  ·obtain ⟨g,rfl,hg⟩:=H1.out (by omega)
   obtain ⟨g2,rfl,hg2⟩:=H2.out (by omega)
   obtain ⟨x_,hx_⟩:∃ x,l[i]?=some x:=⟨l[i],List.getElem?_eq_getElem hlt⟩
   have u1:=hg _ _ (strsL_get hx_)
   have u2:=hg2 _ _ (strsL_get hx_)
   have n1:(i:Int)<(l.length:Int):=by omega
   have n2:(0:Int)≤(i:Int):=by omega
   have n3:decide ((i:Int)<(l.length:Int))=true:=decide_eq_true n1
   have w1_:IntKind.i64.wrap ((i:Int)+1)=(i:Int)+1:=IntWalk.i64_in _ (by omega)
   clear hg hg2 hx_
   go_wp2_with fail
   go_region
   go_wp2_with fail
   go_roundg (l.length-i)
   case measure=>omega
   case rel=>exact ⟨i+1,by omega,by omega,rfl,Drawn.more ⟨k,rfl⟩ 1⟩
  ·have n1:¬ (i:Int)<(l.length:Int):=by omega
   have n3:decide ((i:Int)<(l.length:Int))=false:=decide_eq_false n1
   go_wp2_with fail
   exact bodyPost_ret (results_tmp rfl _ _ _) rfl ⟨rfl,k,rfl⟩
theorem eq_aggs {W:World} {b1 b2:Nat} {l:List (Nat×Bytes)} {v1 v2:Value} (h1:W.ownsRow b1 85 2 v1 l.length (aggsL l)) (h2:W.ownsRow b2 85 2 v2 l.length (aggsL l)) (W0:World) (hd:Below W.heap.size W W0) :
 Calls Tryz.prog 56 #[v1,v2] W0 fun e W'=>e=.returned (.bool true)∧Drawn W0 W':=by
 obtain ⟨p1,c1,rfl,_,q2,q3⟩:=row_cells (own_kept h1 hd)
 obtain ⟨p2,c2,rfl,_,r2,r3⟩:=row_cells (own_kept h2 hd)
 have H1:=Lib.hid q3
 have H2:=Lib.hid r3
 simp only [maxLen] at q2
 clear h1 h2 q3 r3 hd r2
 go_enter Tryz.func56,Tryz.ntmps56
 go_wp2_with fail
 go_loopg [13] (l.length+1) (fun gk c wr => ∃ i:Nat,i≤l.length∧l.length<i+gk∧c=.int .i64 (i:Int)∧Drawn W0 wr)
 case atStart=>exact ⟨0,Nat.zero_le _,by omega,rfl,0,rfl⟩
 case round =>
  obtain ⟨i,hi,hgk,rfl,k,rfl⟩:=hrel
  by_cases hlt:i<l.length
  ·obtain ⟨g,rfl,hg⟩:=H1.out (by omega)
   obtain ⟨g2,rfl,hg2⟩:=H2.out (by omega)
   obtain ⟨x_,hx_⟩:∃ x,l[i]?=some x:=⟨l[i],List.getElem?_eq_getElem hlt⟩
   have u1:=hg _ _ (aggsL_get _ _ _ hx_).1
   have u2:=hg _ _ (aggsL_get _ _ _ hx_).2
   have u3:=hg2 _ _ (aggsL_get _ _ _ hx_).1
   have u4:=hg2 _ _ (aggsL_get _ _ _ hx_).2
   have n1:(i:Int)<(l.length:Int):=by omega
   have n2:(0:Int)≤(i:Int):=by omega
   have n3:decide ((i:Int)<(l.length:Int))=true:=decide_eq_true n1
   have w1_:IntKind.i64.wrap ((i:Int)+1)=(i:Int)+1:=IntWalk.i64_in _ (by omega)
   clear hg hg2 hx_
   go_wp2_with fail
   go_region
   go_wp2_with fail
   go_roundg (l.length-i)
   case measure=>omega
   case rel=>exact ⟨i+1,by omega,by omega,rfl,Drawn.more ⟨k,rfl⟩ 1⟩
  ·have n1:¬ (i:Int)<(l.length:Int):=by omega
   have n3:decide ((i:Int)<(l.length:Int))=false:=decide_eq_false n1
   go_wp2_with fail
   exact bodyPost_ret (results_tmp rfl _ _ _) rfl ⟨rfl,k,rfl⟩
theorem clos_below {W:World} {b i k:Nat} (hk:k<i) (hc:W.cell? ⟨b,0,none⟩=some (.int .i64 (i:Int))) :
 Calls Tryz.prog 83 #[.int .i64 (k:Int),.pointer (some ⟨b,0,none⟩)] W fun e W'=>e=.returned (.bool false)∧W'=W:=by
 have n1:¬ (k:Int)<0:=by omega
 have n2:decide ((k:Int)<0)=false:=decide_eq_false n1
 have n3:¬ (i:Int)≤(k:Int):=by omega
 have n4:decide ((i:Int)≤(k:Int))=false:=decide_eq_false n3
 have n5:(k:Int)<(i:Int):=by omega
 go_enter Tryz.func83,Tryz.ntmps83
 go_wp2_with fail
 exact bodyPost_ret (results_tmp rfl _ _ _) rfl ⟨rfl,rfl⟩
theorem index_below {W:World} {b1 b i:Nat} {l:List Nat} {v:Value} (h1:W.ownsRow b1 3 1 v l.length (intsL l)) (hl:∀ k∈l,k<i) (W0:World) (hd:Below W.heap.size W W0) (hc:W0.cell? ⟨b,0,none⟩=some (.int .i64 (i:Int))) :
 Calls Tryz.prog 82 #[v,.func (.func 83) #[] #[.pointer (some ⟨b,0,none⟩)]] W0 fun e W'=>e=.returned (.int .i64 (-1))∧W'=W0:=by
 obtain ⟨p1,c1,rfl,_,q2,q3⟩:=row_cells (own_kept h1 hd)
 have H1:=Lib.hid q3
 have HK:=Lib.hid (fun k (hk:k<i)=>clos_below hk hc)
 simp only [maxLen] at q2
 clear h1 q3 hd
 go_enter Tryz.func82,Tryz.ntmps82
 go_wp2_with fail
 go_loopg [8] (l.length+1) (fun gk c wr => ∃ j:Nat,j≤l.length∧l.length<j+gk∧c=.int .i64 (j:Int)∧wr=W0)
 case atStart=>exact ⟨0,Nat.zero_le _,by omega,rfl,rfl⟩
 case round =>
  obtain ⟨j,hj,hgk,rfl,rfl⟩:=hrel
  by_cases hlt:j<l.length
  ·obtain ⟨g,rfl,hg⟩:=H1.out (by omega)
   obtain ⟨x_,hx_⟩:∃ x,l[j]?=some x:=⟨l[j],List.getElem?_eq_getElem hlt⟩
   have u1:=hg _ _ (intsL_get hx_)
   have hk1:=HK.out x_ (hl x_ (List.mem_of_getElem? hx_))
   have n1:(j:Int)<(l.length:Int):=by omega
   have n2:(0:Int)≤(j:Int):=by omega
   have n3:decide ((j:Int)<(l.length:Int))=true:=decide_eq_true n1
   have w1_:IntKind.i64.wrap ((j:Int)+1)=(j:Int)+1:=IntWalk.i64_in _ (by omega)
   clear hg hx_
   go_wp2_with fail
   refine hk1.mono ?_
   rintro e w1 ⟨rfl,rfl⟩
   go_wp2_with fail
   go_roundg (l.length-j)
   case measure=>omega
   case rel=>exact ⟨j+1,by omega,by omega,rfl,rfl⟩
  ·have n1:¬ (j:Int)<(l.length:Int):=by omega
   have n3:decide ((j:Int)<(l.length:Int))=false:=decide_eq_false n1
   go_wp2_with fail
   exact bodyPost_ret (results_tmp rfl _ _ _) rfl ⟨rfl,rfl⟩
theorem clos_plain {s:Bytes} (h:LexT (wd s)) (W:World) (hg:GW W) :
 Calls Tryz.prog 87 #[.string (BA s)] W fun e W'=>e=.returned (.bool false)∧Below W.heap.size W W':=by
 have hp:=plain_word h W hg
 clear hg
 go_enter Tryz.func87,Tryz.ntmps87
 go_wp2_with fail
 refine hp.mono ?_
 rintro e w1 ⟨rfl,hb⟩
 go_wp2_with fail
 exact bodyPost_ret (results_tmp rfl _ _ _) rfl ⟨rfl,hb⟩
theorem index_words {W:World} {b1:Nat} {l:List Bytes} {v:Value} (h1:W.ownsRow b1 9 1 v l.length (strsL l)) (hl:∀ s∈l,LexT (wd s)) (W0:World) (hd:Below W.heap.size W W0) (hg0:GW W0) :
 Calls Tryz.prog 125 #[v,.func (.func 87) #[] #[]] W0 fun e W'=>e=.returned (.int .i64 (-1))∧Below W0.heap.size W0 W':=by
 obtain ⟨p1,c1,rfl,_,q2,q3⟩:=row_cells (own_kept h1 hd)
 have H1:=Lib.hid q3
 have HG:=Lib.hid hg0
 simp only [maxLen] at q2
 clear h1 q3 hd hg0
 go_enter Tryz.func125,Tryz.ntmps125
 go_wp2_with fail
 go_loopg [8] (l.length+1) (fun gk c wr => ∃ j:Nat,j≤l.length∧l.length<j+gk∧c=.int .i64 (j:Int)∧Below W0.heap.size W0 wr)
 case atStart=>exact ⟨0,Nat.zero_le _,by omega,rfl,Below.refl _ _⟩
 case round =>
  obtain ⟨j,hj,hgk,rfl,hb⟩:=hrel
  have HB:=Lib.hid hb
  by_cases hlt:j<l.length
  ·obtain ⟨g,rfl,hg⟩:=H1.out (by omega)
   obtain ⟨x_,hx_⟩:∃ x,l[j]?=some x:=⟨l[j],List.getElem?_eq_getElem hlt⟩
   have u1:=keepc hb (hg _ _ (strsL_get hx_))
   have hk1:=clos_plain (hl x_ (List.mem_of_getElem? hx_)) wr (HG.out.kept hb)
   have HK:=Lib.hid hk1
   have n1:(j:Int)<(l.length:Int):=by omega
   have n2:(0:Int)≤(j:Int):=by omega
   have n3:decide ((j:Int)<(l.length:Int))=true:=decide_eq_true n1
   have w1_:IntKind.i64.wrap ((j:Int)+1)=(j:Int)+1:=IntWalk.i64_in _ (by omega)
   clear hg hx_ hk1 hb
   go_wp2_with fail
   refine HK.out.mono ?_
   rintro e w1 ⟨rfl,hb1⟩
   have HB1:=Lib.hid (chain HB.out hb1)
   clear hb1 u1
   go_wp2_with fail
   go_roundg (l.length-j)
   case measure=>omega
   case rel=>exact ⟨j+1,by omega,by omega,rfl,HB1.out⟩
  ·have n1:¬ (j:Int)<(l.length:Int):=by omega
   have n3:decide ((j:Int)<(l.length:Int))=false:=decide_eq_false n1
   clear hb
   go_wp2_with fail
   exact bodyPost_ret (results_tmp rfl _ _ _) rfl ⟨rfl,HB.out⟩
theorem contains_words {W:World} {b1:Nat} {l:List Bytes} {v:Value} (h1:W.ownsRow b1 9 1 v l.length (strsL l)) (hl:∀ s∈l,LexT (wd s)) (W0:World) (hd:Below W.heap.size W W0) (hg0:GW W0) :
 Calls Tryz.prog 86 #[v,.func (.func 87) #[] #[]] W0 fun e W'=>e=.returned (.bool false)∧Below W0.heap.size W0 W':=by
 have hi:=index_words h1 hl W0 hd hg0
 clear h1 hl hd hg0
 go_enter Tryz.func86,Tryz.ntmps86
 go_wp2_with fail
 refine hi.mono ?_
 rintro e w1 ⟨rfl,hb⟩
 go_wp2_with fail
 exact bodyPost_ret (results_tmp rfl _ _ _) rfl ⟨rfl,hb⟩
theorem clone_strs {W:World} {b1:Nat} {l:List Bytes} {v:Value} (h1:W.ownsRow b1 9 1 v l.length (strsL l)) (hl:l.length≤100000) (W0:World) (hd:Below W.heap.size W W0) :
 Calls Tryz.prog 84 #[v] W0 fun e W' => ∃ u,e=.returned u∧W'.ownsRow W0.heap.size 9 1 u l.length (strsL l)∧Below W0.heap.size W0 W':=by
 have hk:=own_kept h1 hd
 have hcs:=fun g hg=>hk.cells (g:=g) hg
 obtain ⟨p1,c1,rfl,_,q2,q3⟩:=row_cells hk
 have hn:p1=none→l=[]∧c1=0:=by
  rintro rfl
  rcases hk.2 with ⟨e1,e2⟩ | ⟨g,cap,cur,e1,_⟩
  ·injection e1 with _ _ e3
   exact ⟨List.eq_nil_of_length_eq_zero e2,e3⟩
  ·cases e1
 have ho:∀ g,p1=some g→∃ b,g=⟨b,0,none⟩:=by
  rintro g rfl
  rcases hk.2 with ⟨e1,e2⟩ | ⟨g',cap,cur,e1,_⟩
  ·cases e1
  ·injection e1 with e1
   injection e1 with e1
   exact ⟨_,e1⟩
 cases p1 with
 | none =>
   obtain ⟨rfl,rfl⟩:=hn rfl
   exact (Tryz.slices_Clone_string_nil _ _ W0).mono fun e w' ⟨he,hw⟩=>⟨_,he,World.ownsRow_nil _ _ _ _,hw▸Below.refl _ _⟩
 | some a =>
   obtain ⟨b,rfl⟩:=ho a rfl
   have hC:=hcs b rfl
   have hm:(((l.map BA).take l.length).map Value.string)=strsL l:=by
    rw [List.take_of_length_le (by rw [List.length_map];exact Nat.le_refl _),List.map_map]
    rfl
   have hcl:=Tryz.slices_Clone_string b 0 l.length c1 (l.map BA) W0 (by rw [List.length_map];exact Nat.le_refl _) (by omega) (fun j hj=>by
    rw [List.length_map] at hj
    have:=hC j _ (strsL_get (List.getElem?_eq_getElem hj))
    rw [Addr.add_lit] at this
    rw [this,List.getD_eq_getElem?_getD,List.getElem?_map,List.getElem?_eq_getElem hj]
    rfl)
   rw [hm] at hcl
   exact hcl.mono fun e w' ⟨v',he,h1,_,h3⟩=>⟨v',he,h1,h3⟩
end Go.Proofs.YtnaehhpikhlppaaGreatDoor
