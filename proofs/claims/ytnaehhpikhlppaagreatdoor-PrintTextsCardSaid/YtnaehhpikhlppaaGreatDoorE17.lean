/- Several texts of the proof, joined. -/
import Derived.Test.YtnaehhpikhlppaaGreatDoorE16
import Derived.Deep.CutBlock
import Derived.Deep.RegionLawGrows
set_option maxHeartbeats 4000000
set_option maxRecDepth 100000
set_option linter.unusedVariables false
set_option linter.unusedSimpArgs false
namespace Go.Proofs.YtnaehhpikhlppaaGreatDoor
open Go.RowKit LexS ParS BigFrame
attribute [local go_sem] field_tok1 field_tok2
attribute [local go_sem] World.cell?_alloc_some cell_drewN_new free_drewN_new cell_drew_new free_drew_new
section
variable {base r deep:Nat} {tv nv lv:Value} {T:List Tok} {ns:List Nd} {Wn W:World} {bx bl:Nat} {ts ts0 ts1:List Tk} {acc:List (Nat×Bytes)} {t:Tk} {k:Nat}
theorem agg_zero (h:choice kw_aggs 1 ts=(0,ts1)):agg ts ns=.error (ts.length,false):=by
 unfold agg
 rw [h]
theorem agg_one (h:choice kw_aggs 1 ts=(1,ts1)):agg ts ns=.ok ((1,[]),ts1,ns):=by
 unfold agg
 rw [h]
theorem agg_two {ts2:List Tk} (h:choice kw_aggs 1 ts=(k+2,ts1)) (ht:ts1=t::ts2) (hk:t.kind=1):agg ts ns=.ok ((k+2,t.s),ts2,ns):=by
 unfold agg
 rw [h]
 dsimp only
 unfold M.bind
 rw [ht,take_ok hk]
 rfl
theorem agg_bad (h:choice kw_aggs 1 ts=(k+2,ts1)) (hk:∀ t ts2,ts1=t::ts2→t.kind≠1):agg ts ns=.error (ts1.length,false):=by
 unfold agg
 rw [h]
 dsimp only
 unfold M.bind
 rw [take_bad hk]
abbrev AK (base r deep:Nat) (tv nv:Value) (T:List Tok) (ns:List Nd) (Wn:World) (bx bl:Nat) (ts:List Tk) (acc:List (Nat×Bytes)) (lv:Value) (W:World):Prop:=LK base r deep tv nv T ns Wn bx bl 40 85 2 ts acc.length (aggsL acc) lv W
def PostA (base r deep:Nat) (tv nv:Value) (T:List Tok) (ns:List Nd) (Wn:World) (bx bl:Nat) (acc:List (Nat×Bytes)) (x:Except Er ((Nat×Bytes)×List Tk×List Nd)) (e:Ending) (W':World):Prop:=match x with
 | .error (k,long)=>e=Bad T k long∧Mv r Wn W'
 | .ok (x,ts1,_)=>e=.returned (.tuple #[])∧∃ lv',AK base r deep tv nv T ns Wn bx bl ts1 (acc++[x]) lv' W'
theorem agg1_any (h0:RS base r tv T deep ts0 ns nv Wn) (h:AK base r deep tv nv T ns Wn bx bl ts acc lv W) (hne:bl≠bx) (hacc:acc.length≤2000) :
 Calls Tryz.prog 173 #[.pointer (some ⟨bx,0,none⟩),.pointer (some ⟨bl,0,none⟩)] W (PostA base r deep tv nv T ns Wn bx bl acc (agg ts ns)):=by
 have c1:W.cell? ⟨bx,0,none⟩=some (RP r):=h.xb.cell 0
 have hr:=h0.box.lt
 obtain ⟨w1,hw1⟩:∃ w1,w1=W.alloc (.cells #[.string ⟨#[99,111,117,110,116]⟩,.string ⟨#[115,117,109]⟩,.string ⟨#[109,105,110]⟩,.string ⟨#[109,97,120]⟩,.string ⟨#[109,101,97,110]⟩,.string ⟨#[109,101,114,103,101]⟩] 9):=⟨_,rfl⟩
 have hb1:Below W.heap.size W w1:=by rw [hw1];exact (Below.refl _ _).alloc (Nat.le_refl _) _
 have hl1:Blk w1 W.heap.size 9 (strsL kw_aggs).toArray:=by rw [hw1];exact Blk.new W _ _
 have H1:=Lib.hid (h.kept hb1)
 have HC:=Lib.hid (choice_any (h.kept hb1).rs hl1 (by decide))
 have HW:=Lib.hid hw1
 have H0:=Lib.hid h0
 obtain ⟨i0,hi0,hz0,hz1,hz2⟩:=info_parts infoAgg
 clear h hb1 hl1 h0
 go_enter Tryz.func173,Tryz.ntmps173
 go_wp2_with fail
 rw [show W.alloc (.cells #[.string ⟨#[99,111,117,110,116]⟩,.string ⟨#[115,117,109]⟩,.string ⟨#[109,105,110]⟩,.string ⟨#[109,97,120]⟩,.string ⟨#[109,101,97,110]⟩,.string ⟨#[109,101,114,103,101]⟩] 9)=w1 from HW.out.symm]
 clear hw1
 refine HC.out.mono ?_
 rintro e w2 ⟨rfl,h2,m2⟩
 rcases hch:choice kw_aggs 1 ts with ⟨k,ts1⟩
 rw [hch] at h2
 dsimp only at h2
 dsimp only
 have K2:=Lib.hid (H1.out.move hr h2 m2)
 have HCH:=Lib.hid hch
 have hbx2:bx≠w2.heap.size:=Nat.ne_of_lt K2.out.xb.lt
 have hbl2:bl≠w2.heap.size:=Nat.ne_of_lt K2.out.lb.lt
 have hrw2:r≠w2.heap.size:=Nat.ne_of_lt h2.box.lt
 obtain ⟨w3,hw3⟩:∃ w3,w3=w2.alloc (.cells #[.int .i64 (k:Int),.string ⟨#[]⟩] 85):=⟨_,rfl⟩
 have hb3:Below w2.heap.size w2 w3:=by rw [hw3];exact (Below.refl _ _).alloc (Nat.le_refl _) _
 have hx3:Blk w3 w2.heap.size 85 [.int .i64 (k:Int),.string ⟨#[]⟩].toArray:=by rw [hw3];exact Blk.new w2 _ _
 have K3:=Lib.hid (K2.out.kept hb3)
 have X3:=Lib.hid hx3
 have HB3:=Lib.hid hb3
 have HW3:=Lib.hid hw3
 have e0:w3.cell? ⟨w2.heap.size,0,none⟩=some (.int .i64 (k:Int)):=hx3.cell 0
 have e1:w3.cell? ⟨w2.heap.size,1,none⟩=some (.string ⟨#[]⟩):=hx3.cell 1
 have f1:=hx3.free 1
 have g1:w3.cell? ⟨bx,0,none⟩=some (RP r):=K3.out.xb.cell 0
 clear h2 m2 hch hb3 hx3 c1
 go_upto_block 0 with (fail)
 rw [show w2.alloc (.cells #[.int .i64 (k:Int),.string ⟨#[]⟩] 85)=w3 from HW3.out.symm]
 clear hw3
 go_cut [] (fun wx => ∃ (k2:Nat) (s:Bytes) (ts2:List Tk),agg ts ns=.ok ((k2,s),ts2,ns)∧RS base r tv T deep ts2 ns nv wx∧Mv r w2 wx∧Blk wx w2.heap.size 85 [.int .i64 (k2:Int),.string (BA s)].toArray)
 case first =>
  match k,HCH,X3,e0,HW3 with
  | 0,HCH,X3,e0,HW3 =>
    have HE:=Lib.hid (agg_zero (ns:=ns) HCH.out)
    have hz:ts1=ts:=choice_zero (by decide) HCH.out
    subst hz
    have HF:=Lib.hid (fail_any K3.out.rs)
    go_wp2_with fail
    refine HF.out.mono ?_
    rintro e w4 ⟨rfl,rfl⟩
    unfold Bad
    go_wp2_with fail
    exact ⟨rfl,by rw [HE.out];exact ⟨rfl,K3.out.mv⟩⟩
  | 1,HCH,X3,e0,HW3 =>
    have HE:=Lib.hid (agg_one (ns:=ns) HCH.out)
    go_wp2_with fail
    go_meet
    exact ⟨1,[],ts1,HE.out,K3.out.rs,Stp.of HB3.out,X3.out⟩
  | k+2,HCH,X3,e0,HW3 =>
    have q0:(((k+2:Nat):Int) == 0)=false:=by rw [beq_eq_false_iff_ne];omega
    have q1:(((k+2:Nat):Int) == 1)=false:=by rw [beq_eq_false_iff_ne];omega
    rcases take_cases 1 ts1 with ⟨t,ts2,ht,hk⟩ | hk
    ·have HE:=Lib.hid (agg_two (ns:=ns) HCH.out ht hk)
     have HN:=Lib.hid (word_yes K3.out.rs ht hk)
     clear ht hk
     go_wp2_with fail
     refine HN.out.mono ?_
     rintro e w4 ⟨rfl,h4,m4⟩
     have x4:=m4.blk X3.out hrw2.symm
     have e1:w4.cell? ⟨w2.heap.size,1,none⟩=some (.string ⟨#[]⟩):=x4.cell 1
     have f1:=x4.free 1
     have m5:Mv r w2 (w4.setCell ⟨w2.heap.size,1,none⟩ (.string (BA t.s))):=Mv.far (Stp.trans (Stp.of HB3.out) m4) (Nat.le_refl _) 1 _
     have HF:=Lib.hid (And.intro (K2.out.rs.again m5 (h4.box.far hrw2 _) h4.suf h4.short) (And.intro m5 (box_put x4 1 (.string (BA t.s)))))
     clear h4 m4 x4 m5
     go_wp2_with fail
     go_meet
     exact ⟨k+2,t.s,ts2,HE.out,HF.out⟩
    ·have HE:=Lib.hid (agg_bad (ns:=ns) HCH.out hk)
     have HN:=Lib.hid (word_no K3.out.rs hk)
     clear hk
     go_wp2_with fail
     refine HN.out.mono ?_
     rintro e w4 ⟨rfl,m4⟩
     have M4:=Lib.hid (Stp.trans K3.out.mv m4)
     clear m4
     unfold Bad
     go_wp2_with fail
     exact ⟨rfl,by rw [HE.out];exact ⟨rfl,M4.out⟩⟩
 case rest =>
 obtain ⟨k2,s,ts2,hE,h5,m5,x5⟩:=hcut
 have HE:=Lib.hid hE
 have K5:=Lib.hid (K2.out.move hr h5 m5)
 have a0:wc.cell? ⟨bl,0,none⟩=some lv:=K5.out.lb.cell 0
 have a1:wc.cell? ⟨w2.heap.size,0,none⟩=some (.int .i64 (k2:Int)):=x5.cell 0
 have a2:wc.cell? ⟨w2.heap.size,1,none⟩=some (.string (BA s)):=x5.cell 1
 obtain ⟨w6,hw6⟩:∃ w6,w6=wc.alloc (.cells #[.int .i64 (k2:Int),.string (BA s)] 85):=⟨_,rfl⟩
 have hb6:Below wc.heap.size wc w6:=by rw [hw6];exact (Below.refl _ _).alloc (Nat.le_refl _) _
 have HNW:=Lib.hid (show ∀ (j:Nat) u,[Value.int .i64 (k2:Int),.string (BA s)][j]?=some u→w6.cell? ((⟨wc.heap.size,0,none⟩:Addr).add j)=some u by
  intro j u hu
  rw [hw6]
  exact blk_cells (Blk.new wc 85 #[.int .i64 (k2:Int),.string (BA s)]) j u hu)
 have HKK:=Lib.hid (K5.out.kept hb6)
 have HX6:=Lib.hid (x5.kept hb6)
 have HW6:=Lib.hid hw6
 have r6:∀ (K:World→Prop),K w6→K (wc.alloc (.cells #[.int .i64 (k2:Int),.string (BA s)] 85)):=fun K h=>by rw [← HW6.out];exact h
 have R6:=Lib.hid r6
 clear hE h5 m5 x5 hb6 hw6 e0 e1 f1 g1 r6
 rw [show w6=wc.alloc (.cells #[.int .i64 (k2:Int),.string (BA s)] 85) from HW6.out] at HNW HKK HX6
 go_wp2_with (at_builtin
              refine wpList_append_lies _ (by rfl) _ _ _ (by rfl) Wn.heap.size 85 i0 _ 2 24 (by kernel_rfl) hi0 hz0 hz1 hz2 (by rfl) (by decide) _ acc.length (aggsL acc) (by rfl) HKK.out.row ⟨wc.heap.size,0,none⟩ 1 1 [.int .i64 (k2:Int),.string (BA s)] (by rfl) (by rfl) HNW.out (by simp [Value.oneCell']) (by decide) (by unfold maxLen;omega) (by omega) HKK.out.mv.size _ rfl ?_
              intro g cap w7 ho hg hgH hlt
              have HF:=Lib.hid (LK.more H0.out HKK.out (by decide) (by decide) ho hg hne)
              have a9:=HKK.out.row_apart (by decide) (by decide)
              have e0:w7.cell? ⟨bl,0,none⟩=some lv:=hg.cell (HKK.out.lb.cell 0) (Ne.symm a9.1)
              have f0:w7.frozen? ⟨bl,0,none⟩=false:=(World.frozen?_of_block (hg.block bl HKK.out.lb.lt (Ne.symm a9.1))).trans (HKK.out.lb.free 0)
              clear ho hg hgH hlt a9)
 exact bodyPost_end (v:=.tuple #[]) (results_none rfl _ _ _) rfl (by rw [HE.out];exact ⟨rfl,_,by show LK base r deep tv nv T ns Wn bx bl _ _ 2 ts2 (acc++[(k2,s)]).length (aggsL (acc++[(k2,s)])) _ _;rw [show aggsL (acc++[(k2,s)])=aggsL acc++[.int .i64 (k2:Int),.string (BA s)] by simp [aggsL],List.length_append];exact HF.out⟩)
end
end Go.Proofs.YtnaehhpikhlppaaGreatDoor

namespace Go.Proofs.YtnaehhpikhlppaaGreatDoor
open Go.RowKit LexS ParS BigFrame
theorem name_ok {t:Tk} {ts ts1:List Tk} {ns:List Nd} (ht:ts=t::ts1) (hk:t.kind=1):name ts ns=.ok (t.s,ts1,ns):=by
 unfold name M.bind
 rw [ht,take_ok hk]
 rfl
theorem name_bad {ts:List Tk} {ns:List Nd} (hk:∀ t ts1,ts=t::ts1→t.kind≠1):name ts ns=.error (ts.length,false):=by
 unfold name M.bind
 rw [take_bad hk]
theorem many_err {α:Type} {f:M α} {ts:List Tk} {ns:List Nd} {er:Er} (h:f ts ns=.error er):many f ts ns=.error er:=by
 unfold many M.bind
 rw [h]
theorem many_ok {α:Type} {f:M α} {ts ts1:List Tk} {ns ns1:List Nd} {a:α} (h:f ts ns=.ok (a,ts1,ns1)):many f ts ns=manyGo f fuel [a] ts1 ns1:=by
 unfold many M.bind
 rw [h]
theorem manyGo_none {α:Type} {f:M α} {k:Nat} {acc:List α} {ts:List Tk} {ns:List Nd} (h:sees kw_comma ts=none):manyGo f (k+1) acc ts ns=.ok (acc,ts,ns):=by
 unfold manyGo
 rw [h]
theorem manyGo_err {α:Type} {f:M α} {k:Nat} {acc:List α} {ts ts1:List Tk} {ns:List Nd} {er:Er} (h:sees kw_comma ts=some ts1) (h2:f ts1 ns=.error er):manyGo f (k+1) acc ts ns=.error er:=by
 rw [manyGo]
 dsimp only
 rw [h]
 dsimp only
 unfold M.bind
 rw [h2]
theorem manyGo_ok {α:Type} {f:M α} {k:Nat} {acc:List α} {ts ts1 ts2:List Tk} {ns ns1:List Nd} {a:α} (h:sees kw_comma ts=some ts1) (h2:f ts1 ns=.ok (a,ts2,ns1)):manyGo f (k+1) acc ts ns=manyGo f k (acc++[a]) ts2 ns1:=by
 rw [manyGo]
 dsimp only
 rw [h]
 dsimp only
 unfold M.bind
 rw [h2]
abbrev SK (base r deep:Nat) (tv nv:Value) (T:List Tok) (ns:List Nd) (Wn:World) (bx bl:Nat) (ts:List Tk) (acc:List Bytes) (lv:Value) (W:World):Prop:=LK base r deep tv nv T ns Wn bx bl 39 9 1 ts acc.length (strsL acc) lv W
def PostS (base r deep:Nat) (tv nv:Value) (T:List Tok) (ns:List Nd) (Wn:World) (bx bl:Nat) (acc:List Bytes) (x:Except Er (Bytes×List Tk×List Nd)) (e:Ending) (W':World):Prop:=match x with
 | .error (k,long)=>e=Bad T k long∧Mv r Wn W'
 | .ok (x,ts1,_)=>e=.returned (.tuple #[])∧∃ lv',SK base r deep tv nv T ns Wn bx bl ts1 (acc++[x]) lv' W'
theorem name1_any {base r deep:Nat} {tv nv lv:Value} {T:List Tok} {ns:List Nd} {Wn W:World} {bx bl:Nat} {ts ts0:List Tk} {acc:List Bytes} (h0:RS base r tv T deep ts0 ns nv Wn) (h:SK base r deep tv nv T ns Wn bx bl ts acc lv W) (hne:bl≠bx) (hacc:acc.length≤2000) :
 Calls Tryz.prog 172 #[.pointer (some ⟨bl,0,none⟩),.pointer (some ⟨bx,0,none⟩)] W (PostS base r deep tv nv T ns Wn bx bl acc (name ts ns)):=by
 rcases take_cases 1 ts with ⟨t,ts1,ht,hk⟩ | hk
 ·rw [name_ok ht hk]
  refine (name1_yes h0 h hne hacc ht hk).mono ?_
  rintro e w' ⟨rfl,lv',hl⟩
  exact ⟨rfl,lv',by show LK base r deep tv nv T ns Wn bx bl _ _ 1 ts1 (acc++[t.s]).length _ _ _;rw [List.length_append];exact hl⟩
 ·rw [name_bad hk]
  exact (name1_no h hk).mono fun e w' hp=>hp
def PostManyS (base r deep:Nat) (tv nv:Value) (T:List Tok) (ns:List Nd) (Wn:World) (bx bl:Nat) (x:Except Er (List Bytes×List Tk×List Nd)) (e:Ending) (W':World):Prop:=match x with
 | .error (k,long)=>e=Bad T k long∧Mv r Wn W'
 | .ok (l,ts1,_)=>e=.returned (.tuple #[])∧∃ lv',SK base r deep tv nv T ns Wn bx bl ts1 l lv' W'
section
variable {base r deep:Nat} {tv nv lv:Value} {T:List Tok} {ns:List Nd} {Wn W:World} {bx bl:Nat} {ts ts0:List Tk}
structure MKS (base r deep:Nat) (tv nv:Value) (T:List Tok) (ns:List Nd) (Wn:World) (bx bl:Nat) (ts:List Tk) (f:Nat) (acc:List Bytes) (ts1:List Tk) (lv:Value) (W:World):Prop where
 eq:many name ts ns=manyGo name f acc ts1 ns
 fl:ts1.length<f
 k:SK base r deep tv nv T ns Wn bx bl ts1 acc lv W
 bd:acc.length+ts1.length≤1025
theorem manyS_any (h0:RS base r tv T deep ts0 ns nv Wn) (h:SK base r deep tv nv T ns Wn bx bl ts [] lv W) (hne:bl≠bx) :
 Calls Tryz.prog 171 #[RP r,.func (.func 172) #[] #[.pointer (some ⟨bl,0,none⟩),.pointer (some ⟨bx,0,none⟩)]] W (PostManyS base r deep tv nv T ns Wn bx bl (many name ts ns)):=by
 have HI:=Lib.hid (name1_any h0 h hne (by simp))
 have H0:=Lib.hid h0
 have hr:=h0.box.lt
 have hfew:=h.rs.few
 have hsh:=h.rs.short
 clear h h0
 go_enter Tryz.func171,Tryz.ntmps171
 go_wp2_with fail
 refine HI.out.mono ?_
 rintro e w1 hp
 rcases hi:name ts ns with ⟨k,long⟩ | ⟨a,ts1,ns1⟩
 ·rw [hi] at hp
  obtain ⟨rfl,m1⟩:=hp
  have HF:=Lib.hid (And.intro (many_err hi) m1)
  clear hi m1
  unfold Bad
  go_wp2_with fail
  exact ⟨rfl,by rw [HF.out.1];exact ⟨rfl,HF.out.2⟩⟩
 ·rw [hi] at hp
  obtain ⟨rfl,lv1,k1⟩:=hp
  have hns:ns1=ns:=still_name _ _ _ _ _ hi
  subst hns
  have hs1:ts1.length≤ts.length:=(rel_name (e:=True) _ _ _ _ _ hi).1
  have HJ:=Lib.hid (show MKS base r deep tv nv T ns1 Wn bx bl ts fuel [a] ts1 lv1 w1 from ⟨many_ok hi,by unfold fuel;omega,by rw [List.nil_append] at k1;exact k1,by simp;omega⟩)
  clear hi k1 HI
  go_wp2_with fail
  go_loopg [] (ts1.length+2) (fun gk wr => ∃ f acc ts2 lv2,ts2.length<gk∧MKS base r deep tv nv T ns1 Wn bx bl ts f acc ts2 lv2 wr)
  case atStart=>exact ⟨_,_,_,_,by omega,HJ.out⟩
  case round =>
   obtain ⟨f,acc,ts2,lv2,hgk,hj⟩:=hrel
   have hfl:=hj.fl
   have hbd:=hj.bd
   obtain ⟨f1,rfl⟩:∃ f1,f=f1+1:=⟨f-1,by omega⟩
   have HK:=Lib.hid hj
   clear hj HJ
   rcases hs:sees kw_comma ts2 with _ | ts3
   ·have HE:=Lib.hid (HK.out.eq.trans (manyGo_none hs))
    have HS:=Lib.hid (sees_no HK.out.k.rs hs)
    clear hs
    go_wp2_with fail
    refine HS.out.mono ?_
    rintro e w2 ⟨rfl,h2,m2⟩
    have HF:=Lib.hid (HK.out.k.move hr h2 m2)
    clear h2 m2
    go_wp2_with fail
    exact bodyPost_end (v:=.tuple #[]) (results_none rfl _ _ _) rfl (by rw [HE.out];exact ⟨rfl,_,HF.out⟩)
   ·have hl3:=sees_len hs
    have HS:=Lib.hid (sees_yes HK.out.k.rs hs)
    have HSE:=Lib.hid hs
    clear hs
    go_wp2_with fail
    refine HS.out.mono ?_
    rintro e w2 ⟨rfl,h2,m2⟩
    have K2:=Lib.hid (HK.out.k.move hr h2 m2)
    have HI2:=Lib.hid (name1_any H0.out K2.out hne (by omega))
    clear h2 m2
    go_wp2_with fail
    refine HI2.out.mono ?_
    rintro e w3 hp
    rcases hi:name ts3 ns1 with ⟨k,long⟩ | ⟨a3,ts4,ns4⟩
    ·rw [hi] at hp
     obtain ⟨rfl,m3⟩:=hp
     have HF:=Lib.hid (And.intro (HK.out.eq.trans (manyGo_err HSE.out hi)) m3)
     clear hi m3
     unfold Bad
     go_wp2_with fail
     exact ⟨rfl,by rw [HF.out.1];exact ⟨rfl,HF.out.2⟩⟩
    ·rw [hi] at hp
     obtain ⟨rfl,lv3,k3⟩:=hp
     have hns:ns4=ns1:=still_name _ _ _ _ _ hi
     subst hns
     have hs4:ts4.length≤ts3.length:=(rel_name (e:=True) _ _ _ _ _ hi).1
     have HN:=Lib.hid (show MKS base r deep tv nv T ns4 Wn bx bl ts f1 (acc++[a3]) ts4 lv3 w3 from ⟨HK.out.eq.trans (manyGo_ok HSE.out hi),by omega,k3,by simp only [List.length_append,List.length_singleton];omega⟩)
     clear hi k3
     go_wp2_with fail
     go_roundg (ts2.length)
     case measure=>omega
     case rel=>exact ⟨f1,_,ts4,_,by omega,HN.out⟩
end
def PostLS (base r:Nat) (tv:Value) (T:List Tok) (deep:Nat) (ns:List Nd) (nv:Value) (W:World) (x:Except Er (List Bytes×List Tk×List Nd)) (e:Ending) (W':World):Prop:=match x with
 | .error (k,long)=>e=Bad T k long∧Mv r W W'
 | .ok (l,ts1,_) => ∃ lv,e=.returned lv∧W'.ownsRow W.heap.size 9 1 lv l.length (strsL l)∧RS base r tv T deep ts1 ns nv W'∧Mv r W W'
theorem names_any {base r deep:Nat} {tv nv:Value} {T:List Tok} {ns:List Nd} {ts:List Tk} {W:World} (h:RS base r tv T deep ts ns nv W):Calls Tryz.prog 145 #[RP r] W (PostLS base r tv T deep ns nv W (names ts ns)):=by
 have hmf:=hmfA
 obtain ⟨W0,hW0⟩:∃ W0,W0=(W.alloc (.cells #[RP r] 112)).alloc (.cells #[.slice none 0 0] 39):=⟨_,rfl⟩
 have hb:Below W.heap.size W W0:=by rw [hW0];exact ((Below.refl _ _).alloc (Nat.le_refl _) _).alloc (by simp) _
 have hx:Blk W0 W.heap.size 112 #[RP r]:=by rw [hW0];exact (Blk.new W _ _).alloc _
 have hl:Blk W0 (W.heap.size+1) 39 #[.slice none 0 0]:=by
  rw [hW0]
  have:=Blk.new (W.alloc (.cells #[RP r] 112)) 39 #[.slice none 0 0]
  rwa [World.size_alloc] at this
 have HM:=Lib.hid (manyS_any h (show SK base r deep tv nv T ns W W.heap.size (W.heap.size+1) ts [] (.slice none 0 0) W0 from ⟨h.kept hb,Stp.of hb,hl,by omega,hx,Nat.le_refl _,nil_row⟩) (by omega))
 have HW:=Lib.hid hW0
 have g0:W0.cell? ⟨W.heap.size,0,none⟩=some (RP r):=hx.cell 0
 clear h hb hx hl
 go_enter Tryz.func145,Tryz.ntmps145
 go_wp2_with fail
 rw [show (W.alloc (.cells #[RP r] 112)).alloc (.cells #[.slice none 0 0] 39)=W0 from HW.out.symm]
 clear hW0
 refine HM.out.mono ?_
 rintro e w1 hp
 rcases hi:many name ts ns with ⟨k,long⟩ | ⟨l,ts1,ns1⟩
 ·rw [hi] at hp
  obtain ⟨rfl,m1⟩:=hp
  have HF:=Lib.hid (And.intro hi m1)
  clear hi m1
  unfold Bad
  go_wp2_with fail
  exact ⟨rfl,by show PostLS base r tv T deep ns nv W (many name ts ns) _ _;rw [HF.out.1];exact ⟨rfl,HF.out.2⟩⟩
 ·rw [hi] at hp
  obtain ⟨rfl,lv1,k1⟩:=hp
  have c1:w1.cell? ⟨W.heap.size+1,0,none⟩=some lv1:=k1.lb.cell 0
  have HF:=Lib.hid (And.intro hi k1)
  clear hi k1
  go_wp2_with fail
  exact bodyPost_ret (results_tmp rfl _ _ _) rfl (by show PostLS base r tv T deep ns nv W (many name ts ns) _ _;rw [HF.out.1];exact ⟨_,rfl,HF.out.2.row,HF.out.2.rs,HF.out.2.mv⟩)
def PostManyA (base r deep:Nat) (tv nv:Value) (T:List Tok) (ns:List Nd) (Wn:World) (bx bl:Nat) (x:Except Er (List (Nat×Bytes)×List Tk×List Nd)) (e:Ending) (W':World):Prop:=match x with
 | .error (k,long)=>e=Bad T k long∧Mv r Wn W'
 | .ok (l,ts1,_)=>e=.returned (.tuple #[])∧∃ lv',AK base r deep tv nv T ns Wn bx bl ts1 l lv' W'
section
variable {base r deep:Nat} {tv nv lv:Value} {T:List Tok} {ns:List Nd} {Wn W:World} {bx bl:Nat} {ts ts0:List Tk}
structure MKA (base r deep:Nat) (tv nv:Value) (T:List Tok) (ns:List Nd) (Wn:World) (bx bl:Nat) (ts:List Tk) (f:Nat) (acc:List (Nat×Bytes)) (ts1:List Tk) (lv:Value) (W:World):Prop where
 eq:many agg ts ns=manyGo agg f acc ts1 ns
 fl:ts1.length<f
 k:AK base r deep tv nv T ns Wn bx bl ts1 acc lv W
 bd:acc.length+ts1.length≤1025
theorem manyA_any (h0:RS base r tv T deep ts0 ns nv Wn) (h:AK base r deep tv nv T ns Wn bx bl ts [] lv W) (hne:bl≠bx) :
 Calls Tryz.prog 171 #[RP r,.func (.func 173) #[] #[.pointer (some ⟨bx,0,none⟩),.pointer (some ⟨bl,0,none⟩)]] W (PostManyA base r deep tv nv T ns Wn bx bl (many agg ts ns)):=by
 have HI:=Lib.hid (agg1_any h0 h hne (by simp))
 have H0:=Lib.hid h0
 have hr:=h0.box.lt
 have hfew:=h.rs.few
 have hsh:=h.rs.short
 clear h h0
 go_enter Tryz.func171,Tryz.ntmps171
 go_wp2_with fail
 refine HI.out.mono ?_
 rintro e w1 hp
 rcases hi:agg ts ns with ⟨k,long⟩ | ⟨a,ts1,ns1⟩
 ·rw [hi] at hp
  obtain ⟨rfl,m1⟩:=hp
  have HF:=Lib.hid (And.intro (many_err hi) m1)
  clear hi m1
  unfold Bad
  go_wp2_with fail
  exact ⟨rfl,by rw [HF.out.1];exact ⟨rfl,HF.out.2⟩⟩
 ·rw [hi] at hp
  obtain ⟨rfl,lv1,k1⟩:=hp
  have hns:ns1=ns:=still_agg _ _ _ _ _ hi
  subst hns
  have hs1:ts1.length≤ts.length:=(rel_agg (e:=True) _ _ _ _ _ hi).1
  have HJ:=Lib.hid (show MKA base r deep tv nv T ns1 Wn bx bl ts fuel [a] ts1 lv1 w1 from ⟨many_ok hi,by unfold fuel;omega,by rw [List.nil_append] at k1;exact k1,by simp;omega⟩)
  clear hi k1 HI
  go_wp2_with fail
  go_loopg [] (ts1.length+2) (fun gk wr => ∃ f acc ts2 lv2,ts2.length<gk∧MKA base r deep tv nv T ns1 Wn bx bl ts f acc ts2 lv2 wr)
  case atStart=>exact ⟨_,_,_,_,by omega,HJ.out⟩
  case round =>
   obtain ⟨f,acc,ts2,lv2,hgk,hj⟩:=hrel
   have hfl:=hj.fl
   have hbd:=hj.bd
   obtain ⟨f1,rfl⟩:∃ f1,f=f1+1:=⟨f-1,by omega⟩
   have HK:=Lib.hid hj
   clear hj HJ
   rcases hs:sees kw_comma ts2 with _ | ts3
   ·have HE:=Lib.hid (HK.out.eq.trans (manyGo_none hs))
    have HS:=Lib.hid (sees_no HK.out.k.rs hs)
    clear hs
    go_wp2_with fail
    refine HS.out.mono ?_
    rintro e w2 ⟨rfl,h2,m2⟩
    have HF:=Lib.hid (HK.out.k.move hr h2 m2)
    clear h2 m2
    go_wp2_with fail
    exact bodyPost_end (v:=.tuple #[]) (results_none rfl _ _ _) rfl (by rw [HE.out];exact ⟨rfl,_,HF.out⟩)
   ·have hl3:=sees_len hs
    have HS:=Lib.hid (sees_yes HK.out.k.rs hs)
    have HSE:=Lib.hid hs
    clear hs
    go_wp2_with fail
    refine HS.out.mono ?_
    rintro e w2 ⟨rfl,h2,m2⟩
    have K2:=Lib.hid (HK.out.k.move hr h2 m2)
    have HI2:=Lib.hid (agg1_any H0.out K2.out hne (by omega))
    clear h2 m2
    go_wp2_with fail
    refine HI2.out.mono ?_
    rintro e w3 hp
    rcases hi:agg ts3 ns1 with ⟨k,long⟩ | ⟨a3,ts4,ns4⟩
    ·rw [hi] at hp
     obtain ⟨rfl,m3⟩:=hp
     have HF:=Lib.hid (And.intro (HK.out.eq.trans (manyGo_err HSE.out hi)) m3)
     clear hi m3
     unfold Bad
     go_wp2_with fail
     exact ⟨rfl,by rw [HF.out.1];exact ⟨rfl,HF.out.2⟩⟩
    ·rw [hi] at hp
     obtain ⟨rfl,lv3,k3⟩:=hp
     have hns:ns4=ns1:=still_agg _ _ _ _ _ hi
     subst hns
     have hs4:ts4.length≤ts3.length:=(rel_agg (e:=True) _ _ _ _ _ hi).1
     have HN:=Lib.hid (show MKA base r deep tv nv T ns4 Wn bx bl ts f1 (acc++[a3]) ts4 lv3 w3 from ⟨HK.out.eq.trans (manyGo_ok HSE.out hi),by omega,k3,by simp only [List.length_append,List.length_singleton];omega⟩)
     clear hi k3
     go_wp2_with fail
     go_roundg (ts2.length)
     case measure=>omega
     case rel=>exact ⟨f1,_,ts4,_,by omega,HN.out⟩
end
def PostLA (base r:Nat) (tv:Value) (T:List Tok) (deep:Nat) (ns:List Nd) (nv:Value) (W:World) (x:Except Er (List (Nat×Bytes)×List Tk×List Nd)) (e:Ending) (W':World):Prop:=match x with
 | .error (k,long)=>e=Bad T k long∧Mv r W W'
 | .ok (l,ts1,_) => ∃ lv,e=.returned lv∧W'.ownsRow W.heap.size 85 2 lv l.length (aggsL l)∧RS base r tv T deep ts1 ns nv W'∧Mv r W W'
theorem aggs_any {base r deep:Nat} {tv nv:Value} {T:List Tok} {ns:List Nd} {ts:List Tk} {W:World} (h:RS base r tv T deep ts ns nv W):Calls Tryz.prog 146 #[RP r] W (PostLA base r tv T deep ns nv W (aggs ts ns)):=by
 have hmf:=hmfA
 obtain ⟨W0,hW0⟩:∃ W0,W0=(W.alloc (.cells #[RP r] 112)).alloc (.cells #[.slice none 0 0] 40):=⟨_,rfl⟩
 have hb:Below W.heap.size W W0:=by rw [hW0];exact ((Below.refl _ _).alloc (Nat.le_refl _) _).alloc (by simp) _
 have hx:Blk W0 W.heap.size 112 #[RP r]:=by rw [hW0];exact (Blk.new W _ _).alloc _
 have hl:Blk W0 (W.heap.size+1) 40 #[.slice none 0 0]:=by
  rw [hW0]
  have:=Blk.new (W.alloc (.cells #[RP r] 112)) 40 #[.slice none 0 0]
  rwa [World.size_alloc] at this
 have HM:=Lib.hid (manyA_any h (show AK base r deep tv nv T ns W W.heap.size (W.heap.size+1) ts [] (.slice none 0 0) W0 from ⟨h.kept hb,Stp.of hb,hl,by omega,hx,Nat.le_refl _,nil_row⟩) (by omega))
 have HW:=Lib.hid hW0
 have g0:W0.cell? ⟨W.heap.size,0,none⟩=some (RP r):=hx.cell 0
 clear h hb hx hl
 go_enter Tryz.func146,Tryz.ntmps146
 go_wp2_with fail
 rw [show (W.alloc (.cells #[RP r] 112)).alloc (.cells #[.slice none 0 0] 40)=W0 from HW.out.symm]
 clear hW0
 refine HM.out.mono ?_
 rintro e w1 hp
 rcases hi:many agg ts ns with ⟨k,long⟩ | ⟨l,ts1,ns1⟩
 ·rw [hi] at hp
  obtain ⟨rfl,m1⟩:=hp
  have HF:=Lib.hid (And.intro hi m1)
  clear hi m1
  unfold Bad
  go_wp2_with fail
  exact ⟨rfl,by show PostLA base r tv T deep ns nv W (many agg ts ns) _ _;rw [HF.out.1];exact ⟨rfl,HF.out.2⟩⟩
 ·rw [hi] at hp
  obtain ⟨rfl,lv1,k1⟩:=hp
  have c1:w1.cell? ⟨W.heap.size+1,0,none⟩=some lv1:=k1.lb.cell 0
  have HF:=Lib.hid (And.intro hi k1)
  clear hi k1
  go_wp2_with fail
  exact bodyPost_ret (results_tmp rfl _ _ _) rfl (by show PostLA base r tv T deep ns nv W (many agg ts ns) _ _;rw [HF.out.1];exact ⟨_,rfl,HF.out.2.row,HF.out.2.rs,HF.out.2.mv⟩)
end Go.Proofs.YtnaehhpikhlppaaGreatDoor

namespace Go.Proofs.YtnaehhpikhlppaaGreatDoor
open Go.RowKit LexS ParS BigFrame
attribute [local go_sem] field_tok1 field_tok2
attribute [local go_sem] World.cell?_alloc_some cell_drewN_new free_drewN_new cell_drew_new free_drew_new
theorem infoInt:(Tryz.prog.info? 3).map (fun i=>(i.zero,i.size,i.bytes))=some (some (.int .i64 0),1,8):=by kernel_rfl
section
variable {inner cond:M Nat} {rows c i:Nat} {ts ts1 ts2 ts3 ts4:List Tk} {ns ns2:List Nd} {er:Er} {t u:Tk} {l:List Bytes} {ag:List (Nat×Bytes)}
theorem bind_err {α β:Type} {p:M α} {f:α→M β} (h:p ts ns=.error er):M.bind p f ts ns=.error er:=by
 unfold M.bind
 rw [h]
theorem bind_assoc' {α β γ:Type} {p:M α} {f:α→M β} {g:β→M γ}:M.bind p (fun a=>M.bind (f a) g) ts ns=M.bind (M.bind p f) g ts ns:=by
 unfold M.bind
 rcases p ts ns with er | ⟨a,ts1,ns1⟩<;>rfl
def brk (inner:M Nat):M Nat:=M.bind (wants kw_open) fun _=>inner
theorem s1_err (h:choice kw_steps 1 ts=(1,ts1)) (hc:cond ts1 ns=.error er):stepOf inner cond rows ts ns=.error er:=by
 unfold stepOf
 rw [h]
 exact bind_err hc
theorem s1_ok (h:choice kw_steps 1 ts=(1,ts1)) (hc:cond ts1 ns=.ok (c,ts2,ns2)):stepOf inner cond rows ts ns=.ok (ns2.length,ts2,ns2++[node 2 [rows,c]]):=by
 unfold stepOf
 rw [h]
 exact (bind_eq hc).trans rfl
theorem s2_err (h:choice kw_steps 1 ts=(2,ts1)) (hc:names ts1 ns=.error er):stepOf inner cond rows ts ns=.error er:=by
 unfold stepOf
 rw [h]
 exact bind_err hc
theorem s2_ok (h:choice kw_steps 1 ts=(2,ts1)) (hc:names ts1 ns=.ok (l,ts2,ns2)):stepOf inner cond rows ts ns=.ok (ns2.length,ts2,ns2++[{node 3 [rows] with names:=l}]):=by
 unfold stepOf
 rw [h]
 exact (bind_eq hc).trans rfl
theorem s3_err (h:choice kw_steps 1 ts=(3,ts1)) (hk:∀ t ts2,ts1=t::ts2→t.kind≠2):stepOf inner cond rows ts ns=.error (ts1.length,false):=by
 unfold stepOf
 rw [h]
 exact bind_err (take_bad hk)
theorem s3_ok (h:choice kw_steps 1 ts=(3,ts1)) (ht:ts1=t::ts2) (hk:t.kind=2):stepOf inner cond rows ts ns=.ok (ns.length,ts2,ns++[{node 4 [rows] with n:=t.n}]):=by
 unfold stepOf
 rw [h]
 exact (bind_eq (by rw [ht];exact take_ok hk)).trans rfl
def gnames:M (List Bytes):=fun ts2 ns2=>match sees kw_colon ts2 with
 | some _=>.ok ([],ts2,ns2)
 | none=>names ts2 ns2
theorem s4_eq (h:choice kw_steps 1 ts=(4,ts1)):stepOf inner cond rows ts ns=M.bind gnames (fun l=>M.bind (wants kw_colon) fun _=>M.bind aggs fun a=>lay {node 5 [rows] with names:=l,aggs:=a}) ts1 ns:=by
 unfold stepOf
 rw [h]
 rfl
theorem s4_err1 (h:choice kw_steps 1 ts=(4,ts1)) (hc:gnames ts1 ns=.error er):stepOf inner cond rows ts ns=.error er:=by
 rw [s4_eq h]
 exact bind_err hc
theorem s4_err2 (h:choice kw_steps 1 ts=(4,ts1)) (hc:gnames ts1 ns=.ok (l,ts2,ns)) (h2:sees kw_colon ts2=none):stepOf inner cond rows ts ns=.error (ts2.length,false):=by
 rw [s4_eq h,bind_eq hc]
 refine bind_err ?_
 unfold wants
 rw [h2]
theorem wants_ok {w:Bytes} (h2:sees w ts2=some ts3):wants w ts2 ns=.ok ((),ts3,ns):=by
 unfold wants
 rw [h2]
theorem wants_bad {w:Bytes} (h2:sees w ts2=none):wants w ts2 ns=.error (ts2.length,false):=by
 unfold wants
 rw [h2]
theorem s4_err3 (h:choice kw_steps 1 ts=(4,ts1)) (hc:gnames ts1 ns=.ok (l,ts2,ns)) (h2:sees kw_colon ts2=some ts3) (ha:aggs ts3 ns=.error er):stepOf inner cond rows ts ns=.error er:=by
 rw [s4_eq h,bind_eq hc,bind_eq (wants_ok h2)]
 exact bind_err ha
theorem s4_ok (h:choice kw_steps 1 ts=(4,ts1)) (hc:gnames ts1 ns=.ok (l,ts2,ns)) (h2:sees kw_colon ts2=some ts3) (ha:aggs ts3 ns=.ok (ag,ts4,ns)):stepOf inner cond rows ts ns=.ok (ns.length,ts4,ns++[{node 5 [rows] with names:=l,aggs:=ag}]):=by
 rw [s4_eq h,bind_eq hc,bind_eq (wants_ok h2),bind_eq ha]
 rfl
theorem s5_eq (h:choice kw_steps 1 ts=(5,ts1)):stepOf inner cond rows ts ns=M.bind (take 2) (fun t=>M.bind (wants kw_by) fun _=>M.bind (take 1) fun u=>lay {node 6 [rows] with n:=t.n,s:=u.s}) ts1 ns:=by
 unfold stepOf
 rw [h]
 rfl
theorem s5_err1 (h:choice kw_steps 1 ts=(5,ts1)) (hk:∀ t ts2,ts1=t::ts2→t.kind≠2):stepOf inner cond rows ts ns=.error (ts1.length,false):=by
 rw [s5_eq h]
 exact bind_err (take_bad hk)
theorem s5_err2 (h:choice kw_steps 1 ts=(5,ts1)) (ht:ts1=t::ts2) (hk:t.kind=2) (h2:sees kw_by ts2=none):stepOf inner cond rows ts ns=.error (ts2.length,false):=by
 rw [s5_eq h,bind_eq (by rw [ht];exact take_ok hk)]
 exact bind_err (wants_bad h2)
theorem s5_err3 (h:choice kw_steps 1 ts=(5,ts1)) (ht:ts1=t::ts2) (hk:t.kind=2) (h2:sees kw_by ts2=some ts3) (hk3:∀ t ts2,ts3=t::ts2→t.kind≠1):stepOf inner cond rows ts ns=.error (ts3.length,false):=by
 rw [s5_eq h,bind_eq (by rw [ht];exact take_ok hk),bind_eq (wants_ok h2)]
 exact bind_err (take_bad hk3)
theorem s5_ok (h:choice kw_steps 1 ts=(5,ts1)) (ht:ts1=t::ts2) (hk:t.kind=2) (h2:sees kw_by ts2=some ts3) (hu:ts3=u::ts4) (hk3:u.kind=1):stepOf inner cond rows ts ns=.ok (ns.length,ts4,ns++[{node 6 [rows] with n:=t.n,s:=u.s}]):=by
 rw [s5_eq h,bind_eq (by rw [ht];exact take_ok hk),bind_eq (wants_ok h2),bind_eq (by rw [hu];exact take_ok hk3)]
 rfl
theorem s67_err {k:Nat} (hk:k=6∨k=7) (h:choice kw_steps 1 ts=(k,ts1)) (hc:brk inner ts1 ns=.error er):stepOf inner cond rows ts ns=.error er:=by
 rcases hk with rfl | rfl
 all_goals
  unfold stepOf
  rw [h]
  exact bind_assoc'.trans (bind_err hc)
theorem s6_ok (h:choice kw_steps 1 ts=(6,ts1)) (hc:brk inner ts1 ns=.ok (i,ts2,ns2)):stepOf inner cond rows ts ns=.ok (ns2.length,ts2,ns2++[node 7 [rows,i]]):=by
 unfold stepOf
 rw [h]
 exact bind_assoc'.trans ((bind_eq hc).trans rfl)
theorem s7_ok (h:choice kw_steps 1 ts=(7,ts1)) (hc:brk inner ts1 ns=.ok (i,ts2,ns2)):stepOf inner cond rows ts ns=.ok (ns2.length,ts2,ns2++[node 8 [rows,i]]):=by
 unfold stepOf
 rw [h]
 exact bind_assoc'.trans ((bind_eq hc).trans rfl)
theorem s0_err (h:choice kw_steps 1 ts=(0,ts1)):stepOf inner cond rows ts ns=.error (ts.length,false):=by
 unfold stepOf
 rw [h]
 rfl
end
section
variable {base r deep:Nat} {tv nv nv':Value} {T:List Tok} {ts ts1:List Tk} {ns ns1:List Nd} {W W' Wx:World}
theorem bracketed_any {inner:M Nat} (h2:WithC 175 inner deep):Reads 147 (brk inner) deep:=by
 intro base r tv nv T ts ns W h hbase hB
 have hmf:=hmfA
 obtain ⟨W0,hW0,h0,x0,m0,hne,hb0⟩:=box_start h
 have hsh:=h.short
 have H2:=Lib.hid h2
 have X0:=Lib.hid x0
 have M0:=Lib.hid m0
 have HW:=Lib.hid hW0
 have c0:W0.cell? ⟨W.heap.size,0,none⟩=some (RP r):=x0.cell 0
 rcases hs:sees kw_open ts with _ | ts1
 ·have HE:=Lib.hid (show brk inner ts ns=.error (ts.length,false) from bind_err (wants_bad hs))
  have HS:=Lib.hid (wants_no h0 hs)
  clear h h0 x0 m0 hs h2 hb0
  go_enter Tryz.func147,Tryz.ntmps147
  go_wp2_with fail
  rw [show W.alloc (.cells #[RP r] 112)=W0 from HW.out.symm]
  clear hW0
  refine HS.out.mono ?_
  rintro e w1 ⟨rfl,m1⟩
  have M1:=Lib.hid (M0.out.trans m1)
  clear m1
  unfold Bad
  go_wp2_with fail
  exact ⟨rfl,by rw [HE.out];exact ⟨rfl,nv,Mv.stp M1.out nv⟩⟩
 ·have HE:=Lib.hid (show brk inner ts ns=inner ts1 ns from bind_eq (wants_ok hs))
  have HS:=Lib.hid (wants_yes h0 hs)
  have hl:=sees_len hs
  clear h h0 x0 m0 hs h2 hb0
  go_enter Tryz.func147,Tryz.ntmps147
  go_wp2_with fail
  rw [show W.alloc (.cells #[RP r] 112)=W0 from HW.out.symm]
  clear hW0
  refine HS.out.mono ?_
  rintro e w1 ⟨rfl,h1,m1⟩
  have M1:=Lib.hid (M0.out.trans m1)
  have x1:=m1.blk X0.out hne
  have c1:w1.cell? ⟨W.heap.size,0,none⟩=some (RP r):=x1.cell 0
  have HC:=Lib.hid (H2.out _ _ _ _ _ _ _ _ _ h1 (Nat.le_trans hbase M1.out.size) (by omega) (by omega) x1 hne hbase)
  clear h1 m1 x1 c0
  go_wp2_with fail
  refine HC.out.mono ?_
  rintro e w2 hp
  rcases hr:inner ts1 ns with ⟨k,long⟩ | ⟨a,ts2,ns2⟩
  ·rw [hr] at hp
   obtain ⟨rfl,nv1,s1⟩:=hp
   have HF:=Lib.hid (And.intro (HE.out.trans hr) ((Mv.stp M1.out nv).trans s1))
   clear hr s1
   unfold Bad
   go_wp2_with fail
   exact ⟨rfl,by rw [HF.out.1];exact ⟨rfl,_,HF.out.2⟩⟩
  ·rw [hr] at hp
   obtain ⟨nv1,rfl,h3,s3⟩:=hp
   have HF:=Lib.hid (And.intro (HE.out.trans hr) (And.intro h3 ((Mv.stp M1.out nv).trans s3)))
   clear hr h3 s3
   go_wp2_with fail
   exact bodyPost_ret (results_tmp rfl _ _ _) rfl (by rw [HF.out.1];exact ⟨_,rfl,HF.out.2⟩)
end
end Go.Proofs.YtnaehhpikhlppaaGreatDoor
