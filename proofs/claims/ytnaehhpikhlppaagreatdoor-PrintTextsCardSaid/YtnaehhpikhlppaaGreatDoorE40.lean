/- Several texts of the proof, joined. -/
import Derived.Test.YtnaehhpikhlppaaGreatDoorE39
set_option maxHeartbeats 4000000
set_option maxRecDepth 100000
set_option linter.unusedVariables false
set_option linter.unusedSimpArgs false
namespace Go.Proofs.YtnaehhpikhlppaaGreatDoor
open Go.RowKit LexS ParS BigFrame
attribute [local go_sem] field_tok1 field_tok2
attribute [local go_sem] World.cell?_alloc_some cell_drewN_new free_drewN_new cell_drew_new free_drew_new
def measS:RSt→Nat
 | .error _=>0
 | .ok (ts,_)=>ts.length+1
abbrev XA:=Except Er ((Nat×Bytes)×List Tk×List Nd)
section
variable {base r deep d2 g:Nat} {tv nv nv' lv:Value} {T:List Tok} {st st1 st2 stc:RSt} {ts ts1 ts2:List Tk} {ns ns1:List Nd} {W W' w1 w2 W1 wr wr2:World} {l:List (Nat×Bytes)} {f:Nat}
structure GK (base r:Nat) (tv:Value) (T:List Tok) (deep:Nat) (st:RSt) (nv:Value) (W:World) (g f:Nat) (stc:RSt) (l:List (Nat×Bytes)) (lv:Value) (wr:World):Prop where
 eq:goP aggs st=thenA (goP agg stc) fun a=>manyGo agg f (l++[a])
 fl:∀ ts ns,stc=.ok (ts,ns)→ts.length≤f
 rf:RF base r tv T deep stc nv wr
 mv:Mv r W wr
 row:wr.ownsRow W.heap.size 85 2 lv l.length (aggsL l)
 bd:l.length+measS stc≤1100
 still:∀ ts ns,stc=.ok (ts,ns)→∃ ts',st=.ok (ts',ns)
 wd:Blk wr g 9 (strsL ([]::kw_aggs)).toArray
def AggsP (base r:Nat) (tv:Value) (T:List Tok) (deep:Nat) (st:RSt) (nv:Value) (W:World) (e:Ending) (W':World):Prop :=
 ∃ (lv:Value) (l:List (Nat×Bytes)),e=.returned lv∧(∀ acc ts ns,goP aggs st=.ok (acc,ts,ns)→l=acc)∧W'.ownsRow W.heap.size 85 2 lv l.length (aggsL l)∧RF base r tv T deep (run aggs st) nv W'∧Mv r W W'
theorem GK.start (h:RF base r tv T deep st nv w1) (m:Mv r W w1) (hw:Blk w1 g 9 (strsL ([]::kw_aggs)).toArray):GK base r tv T deep st nv W g fuel st [] (.slice none 0 0) w1:=by
 have h2:=h.left
 have h3:=h.few
 refine ⟨?_,fun ts ns e=>?_,h,m,nil_row,?_,fun ts ns e=>⟨ts,e⟩,hw⟩
 ·rw [show goP aggs st=thenA (goP agg st) fun a ts ns=>manyGo agg fuel [a] ts ns from goP_bind _ _ st]
  rcases goP agg st with e | ⟨s,ts,ns⟩<;>rfl
 ·rw [e] at h2
  have h2':ts.length≤T.length:=h2
  unfold fuel
  omega
 ·rcases st with er | ⟨ts,ns⟩
  ·simp [measS]
  ·have h2':ts.length≤T.length:=h2
   simp [measS]
   omega
theorem GK.below (h:GK base r tv T deep st nv W g f stc l lv wr) (hb:Below wr.heap.size wr wr2):GK base r tv T deep st nv W g f stc l lv wr2 :=
 ⟨h.eq,h.fl,h.rf.kept hb,Stp.trans h.mv (Stp.of hb),own_kept h.row hb,h.bd,h.still,h.wd.kept hb⟩
def AS (stc:RSt) (k:Nat):Prop := ∀ ts ns,stc=.ok (ts,ns)→choice kw_aggs 1 ts=choice (kw_aggs.drop (k-1)) k ts
theorem drop_agg {k:Nat} {w:Bytes} (h1:1≤k) (hw:kw_aggs[k-1]?=some w):kw_aggs.drop (k-1)=w::kw_aggs.drop k:=by
 obtain ⟨hl,rfl⟩:=List.getElem?_eq_some_iff.1 hw
 rw [List.drop_eq_getElem_cons hl]
 congr 1
 rw [show k-1+1=k by omega]
theorem AS.miss {k:Nat} {w:Bytes} (h1:1≤k) (hw:kw_aggs[k-1]?=some w) (h:AS stc k) (hs:seesR w stc=false):AS stc (k+1):=by
 intro ts ns e
 subst e
 rw [h _ _ rfl,drop_agg h1 hw,show k+1-1=k by omega]
 show (match sees w ts with | some x=>(k,x) | none=>choice (kw_aggs.drop k) (k+1) ts)=_
 rw [seesR_none hs]
theorem AS.hit {k:Nat} {w:Bytes} {t:Tk} (h1:1≤k) (hw:kw_aggs[k-1]?=some w) (h:AS (.ok (t::ts1,ns)) k) (hs:sees w (t::ts1)=some ts1):choice kw_aggs 1 (t::ts1)=(k,ts1):=by
 rw [h _ _ rfl,drop_agg h1 hw]
 show (match sees w (t::ts1) with | some x=>(k,x) | none=>choice (kw_aggs.drop k) (k+1) (t::ts1))=_
 rw [hs]
theorem GK.none (h:GK base r tv T deep st nv W g f stc l lv wr) (ha:AS stc 7):run aggs st=failR stc∧∀ acc ts ns,goP aggs st≠.ok (acc,ts,ns):=by
 have e:∃ er,goP agg stc=.error er∧failR stc=.error er:=by
  rcases stc with er | ⟨ts,ns⟩
  ·exact ⟨er,rfl,rfl⟩
  ·exact ⟨_,agg_zero (ns:=ns) (ha _ _ rfl),rfl⟩
 obtain ⟨er,e1,e2⟩:=e
 unfold run
 rw [h.eq,e1,e2]
 exact ⟨rfl,fun acc ts ns e=>by cases e⟩
def IsAgg (stc:RSt) (y:XA) (a:Nat×Bytes):Prop:=goP agg stc=y∧∀ a' ts ns,y=.ok (a',ts,ns)→a'=a
theorem agg_one_is {t:Tk} (h:choice kw_aggs 1 (t::ts1)=(1,ts1)):IsAgg (.ok (t::ts1,ns)) (.ok ((1,[]),ts1,ns)) (1,[]):=⟨agg_one h,fun a' ts ns e=>by cases e;rfl⟩
theorem agg_two_is {t:Tk} {k:Nat} (hk:2≤k) (h:choice kw_aggs 1 (t::ts1)=(k,ts1)):IsAgg (.ok (t::ts1,ns)) (thenA (goP (take 1) (.ok (ts1,ns))) fun t=>M.pure (k,t.s)) (k,(tokR 1 (.ok (ts1,ns))).s)∧stOf (thenA (goP (take 1) (.ok (ts1,ns))) fun t=>M.pure (k,t.s))=run (take 1) (.ok (ts1,ns)):=by
 obtain ⟨k1,rfl⟩:∃ k1,k=k1+2:=⟨k-2,by omega⟩
 refine ⟨⟨?_,fun a' ts ns' e=>?_⟩,?_⟩
 ·show agg (t::ts1) ns=_
  unfold agg
  rw [h]
  exact thenA_bind _ _ _ _
 ·rcases hx:goP (take 1) (.ok (ts1,ns)) with er | ⟨t2,ts',ns'⟩
  ·rw [hx] at e;cases e
  ·rw [hx] at e
   cases e
   unfold tokR
   rw [hx]
 ·unfold run
  rcases goP (take 1) (.ok (ts1,ns)) with er | ⟨t2,ts',ns'⟩<;>rfl
theorem GK.stop {y:XA} {a:Nat×Bytes} (h:GK base r tv T deep st nv W g f stc l lv wr) (hy:IsAgg stc y a) (hl:measA y<measS stc) (hs:seesR kw_comma (stOf y)=false):run aggs st=stOf y∧∀ acc ts ns,goP aggs st=.ok (acc,ts,ns)→l++[a]=acc:=by
 have e:goP aggs st=thenA y fun a=>manyGo agg f (l++[a]):=by rw [h.eq,hy.1]
 rcases y with er | ⟨a',ts,ns⟩
 ·unfold run
  rw [e]
  exact ⟨rfl,fun acc ts ns e=>by cases e⟩
 ·have ha:=hy.2 _ _ _ rfl
  subst ha
  rcases stc with er | ⟨ts0,ns0⟩
  ·cases hl
  ·have hf:=h.fl _ _ rfl
   simp only [measA,measS] at hl
   obtain ⟨f1,rfl⟩:∃ f1,f=f1+1:=⟨f-1,by omega⟩
   have e2:goP aggs st=.ok (l++[a'],ts,ns):=e.trans (manyGo_noneR (seesR_none hs))
   unfold run
   rw [e2]
   exact ⟨rfl,fun acc ts ns e=>by cases e;rfl⟩
theorem GK.next {a:Nat×Bytes} {t:Tk} (h:GK base r tv T deep st nv W g f stc l lv wr) (hy:IsAgg stc (.ok (a,t::ts1,ns)) a) (hl:measA (.ok (a,t::ts1,ns):XA)<measS stc) (hs:sees kw_comma (t::ts1)=some ts1)
 (h2:RF base r tv T deep (.ok (ts1,ns)) nv w2) (m2:Mv r W w2) {lv':Value} (ho:w2.ownsRow W.heap.size 85 2 lv' (l.length+1) (aggsL l++[.int .i64 (a.1:Int),.string (BA a.2)])) (hwd:Blk w2 g 9 (strsL ([]::kw_aggs)).toArray) (hst:∃ ts',st=.ok (ts',ns)) :
 ∃ f2,GK base r tv T deep st nv W g f2 (.ok (ts1,ns)) (l++[a]) lv' w2∧measS (.ok (ts1,ns))<measS stc:=by
 rcases stc with er | ⟨ts0,ns0⟩
 ·cases hl
 have hf:=h.fl _ _ rfl
 have hbd:=h.bd
 simp only [measA,measS,List.length_cons] at hl hbd
 obtain ⟨f1,rfl⟩:∃ f1,f=f1+1:=⟨f-1,by omega⟩
 refine ⟨f1,⟨?_,fun ts ns e=>?_,h2,m2,?_,?_,fun ts ns' e=>?_,hwd⟩,?_⟩
 ·rw [h.eq,hy.1]
  exact manyGo_some hs
 ·cases e
  omega
 ·rw [List.length_append,show aggsL (l++[a])=aggsL l++[.int .i64 (a.1:Int),.string (BA a.2)] by simp [aggsL]]
  exact ho
 ·simp only [measS,List.length_append,List.length_cons,List.length_nil]
  omega
 ·cases e
  exact hst
 ·simp only [measS]
  omega
theorem aggs_r (h:RF base r tv T deep st nv W):Calls Tryz.prog 123 #[RP r] W (AggsP base r tv T deep st nv W):=by
 obtain ⟨W0,hW0⟩:∃ W0,W0=W.alloc (.cells #[.string ⟨#[]⟩,.string ⟨#[99,111,117,110,116]⟩,.string ⟨#[115,117,109]⟩,.string ⟨#[109,105,110]⟩,.string ⟨#[109,97,120]⟩,.string ⟨#[109,101,97,110]⟩,.string ⟨#[109,101,114,103,101]⟩] 9):=⟨_,rfl⟩
 have hb0:Below W.heap.size W W0:=by rw [hW0];exact (Below.refl _ _).alloc (Nat.le_refl _) _
 have hx0:Blk W0 W.heap.size 9 (strsL ([]::kw_aggs)).toArray:=by rw [hW0];exact Blk.new W _ _
 have HG:=Lib.hid (GK.start (h.kept hb0) (Stp.of hb0) hx0)
 have H:=Lib.hid h
 have hgr:W.heap.size≠r:=(Nat.ne_of_lt h.box.lt).symm
 have hfew:=h.few
 obtain ⟨g,hg⟩:∃ g,g=W.heap.size:=⟨_,rfl⟩
 have HW:=Lib.hid hW0
 obtain ⟨i0,hi0,hz0,hz1,hz2⟩:=info_parts infoAgg
 clear h hb0 hx0 hW0
 go_enter Tryz.func123,Tryz.ntmps123
 go_wp2_with fail
 rw [show W.alloc (.cells #[.string ⟨#[]⟩,.string ⟨#[99,111,117,110,116]⟩,.string ⟨#[115,117,109]⟩,.string ⟨#[109,105,110]⟩,.string ⟨#[109,97,120]⟩,.string ⟨#[109,101,97,110]⟩,.string ⟨#[109,101,114,103,101]⟩] 9)=W0 from HW.out.symm]
 rw [← hg] at HG hgr ⊢
 have HGG:=Lib.hid hg
 clear hg
 go_loopg [4] (measS st+1) (fun gk lw wr => ∃ f stc l,measS stc<gk∧GK base r tv T deep st nv W g f stc l lw wr)
 case atStart=>exact ⟨_,_,_,by omega,HG.out⟩
 case round =>
  obtain ⟨f,stc,l,hgk,hgk2⟩:=hrel
  have HK:=Lib.hid hgk2
  clear hgk2 HG
  go_wp2_with fail
  go_loopg [5] (8:Nat) (fun gi c wr2 => ∃ k:Nat,1≤k∧k≤7∧7<k+gi∧c=.int .i64 (k:Int)∧GK base r tv T deep st nv W g f stc l u4 wr2∧AS stc k)
  case atStart=>exact ⟨1,by omega,by omega,by omega,rfl,HK.out,fun _ _ _=>rfl⟩
  case round =>
   obtain ⟨k,hk1,hk7,hgi,rfl,hgk3,has⟩:=hrel
   have HA:=Lib.hid has
   have HL:=Lib.hid hgk3
   clear hgk3 has HK
   by_cases hlt:k<7
   ·have q1:decide ((k:Int)<7)=true:=decide_eq_true (by omega)
    have q2:(k:Int)<7:=by omega
    have q3:(0:Int)≤(k:Int):=by omega
    obtain ⟨w,hw⟩:∃ w,kw_aggs[k-1]?=some w:=⟨kw_aggs[k-1]'(by simp [kw_aggs];omega),List.getElem?_eq_getElem _⟩
    have hcw:∀ wz:World,Blk wz g 9 (strsL ([]::kw_aggs)).toArray→wz.cell? ⟨g,k,none⟩=some (.string (BA w)):=fun wz hb=>by
     rw [hb.cell k]
     have:(strsL ([]::kw_aggs))[k]?=some (.string (BA w)):=by
      obtain ⟨k1,rfl⟩:∃ k1,k=k1+1:=⟨k-1,by omega⟩
      have hw':kw_aggs[k1]?=some w:=hw
      simp [strsL,hw']
     simpa using this
    have w1_:IntKind.i64.wrap ((k:Int)+1)=(k:Int)+1:=IntWalk.i64_in _ (by omega)
    have HCW:=Lib.hid hcw
    have HWK:=Lib.hid hw
    clear hw hcw
    have cw:=HCW.out _ HL.out.wd
    have his:=is_r w HL.out.rf
    cases hs:seesR w stc with
    | false =>
      rw [hs] at his
      have HIS:=Lib.hid his
      have HA2:=Lib.hid (AS.miss hk1 HWK.out HA.out hs)
      clear his hs
      go_wp2_with fail
      refine HIS.out.mono ?_
      rintro e wr3 ⟨rfl,hb3⟩
      have HL3:=Lib.hid (HL.out.below hb3)
      clear hb3
      go_wp2_with fail
      go_roundg (gk-1)
      case measure=>omega
      case rel=>exact ⟨k+1,by omega,by omega,by omega,by go_num,HL3.out,HA2.out⟩
    | true =>
      obtain ⟨t,ts1,ns,rfl,hn,hsee⟩:=seesR_ok hs
      rw [hs] at his
      have HIS:=Lib.hid his
      have HCH:=Lib.hid (AS.hit hk1 HWK.out HA.out hsee)
      clear his hs hn hsee
      obtain ⟨i,hi⟩:∃ i,i=T.length-(t::ts1).length:=⟨_,rfl⟩
      have hi2:(i:Int)≤1024:=by omega
      have q7:((k:Int) == 7)=false:=by rw [beq_eq_false_iff_ne];omega
      go_wp2_with fail
      refine HIS.out.mono ?_
      rintro e wr3 ⟨rfl,hb3⟩
      have hl3:=HL.out.below hb3
      have c1:wr3.cell? ⟨r,1,none⟩=some (.int .i64 (i:Int)):=by rw [hi];exact hl3.rf.box.cell 1
      have f1:=hl3.rf.box.free 1
      obtain ⟨wr4,hwr4⟩:∃ wr4,wr4=wr3.setCell ⟨r,1,none⟩ (.int .i64 ((i:Int)+1)):=⟨_,rfl⟩
      have h4:RF base r tv T deep (.ok (ts1,ns)) nv wr4:=by rw [hwr4];exact hl3.rf.next (by rw [hi])
      have m4:Mv r wr3 wr4:=by rw [hwr4];exact (Stp.refl _ _ _).set 1 _
      have HL3:=Lib.hid hl3
      have H4:=Lib.hid h4
      have M4:=Lib.hid m4
      have HR4:=Lib.hid hwr4
      have w4_:IntKind.i64.wrap ((i:Int)+1)=(i:Int)+1:=IntWalk.i64_in _ (by omega)
      clear hb3 hl3 h4 m4 hi hwr4
      go_upto_region 10 with (fail)
      rw [show wr3.setCell ⟨r,1,none⟩ (.int .i64 ((i:Int)+1))=wr4 from HR4.out.symm]
      clear c1 f1
      by_cases hk:k=1
      ·have q8:decide ((1:Int)<(k:Int))=false:=decide_eq_false (by omega)
       have q9:¬ (1:Int)<(k:Int):=by omega
       have HCH1:=Lib.hid (show choice kw_aggs 1 (t::ts1)=(1,ts1) by rw [HCH.out,hk])
       have HK1:=Lib.hid hk
       clear hk
       obtain ⟨wr5,hwr5⟩:∃ wr5,wr5=wr4.alloc (.cells #[.int .i64 (k:Int),.string ⟨#[]⟩] 85):=⟨_,rfl⟩
       have hb5:Below wr4.heap.size wr4 wr5:=by rw [hwr5];exact (Below.refl _ _).alloc (Nat.le_refl _) _
       have hx5:Blk wr5 wr4.heap.size 85 #[.int .i64 (k:Int),.string ⟨#[]⟩]:=by rw [hwr5];exact Blk.new wr4 _ _
       have hnr4:u4.ownBlock≠some r:=fun e=>by
        have h3:=(HL3.out.row.lt _ e).1
        have h4:=H.out.box.lt
        omega
       have HR5:=Lib.hid hwr5
       have hab:wr4.heap.size≠r:=(Nat.ne_of_lt H4.out.box.lt).symm
       obtain ⟨ab,habb⟩:∃ ab,ab=wr4.heap.size:=⟨_,rfl⟩
       have BX:=Lib.hid hx5
       have SX:=Lib.hid (And.intro (H4.out.kept hb5) (And.intro (Stp.trans (Stp.trans HL3.out.mv M4.out) (Stp.of hb5)) (And.intro (own_kept (row_mv HL3.out.row M4.out hnr4) hb5) ((M4.out.blk HL3.out.wd hgr).kept hb5))))
       have HY:=Lib.hid (And.intro (show IsAgg (.ok (t::ts1,ns)) (.ok ((k,[]),ts1,ns)) (k,[]) by rw [HK1.out];exact agg_one_is (ns:=ns) HCH1.out) (And.intro (show stOf (Except.ok ((k,[]),ts1,ns):XA)=.ok (ts1,ns) from rfl) (show measA (Except.ok ((k,[]),ts1,ns):XA)<measS (.ok (t::ts1,ns)) by simp only [measA,measS,List.length_cons];omega)))
       have HST:=Lib.hid (show ∀ ts' ns',(Except.ok (ts1,ns):RSt)=.ok (ts',ns')→∃ ts'',st=.ok (ts'',ns') from fun ts' ns' e=>by cases e;exact HL3.out.still _ _ rfl)
       clear hb5 hx5 hwr5 hnr4
       go_upto_region 11 with (fail)
       rw [show wr4.alloc (.cells #[.int .i64 (k:Int),.string ⟨#[]⟩] 85)=wr5 from HR5.out.symm]
       rw [← habb] at BX hab ⊢
       clear habb
       have a0:wr5.cell? ⟨ab,0,none⟩=some (.int .i64 (k:Int)):=BX.out.cell 0
       have a1:wr5.cell? ⟨ab,1,none⟩=some (.string (BA ([]:Bytes))):=BX.out.cell 1
       have hbx:Below wr5.heap.size wr5 (wr5.alloc (.cells #[.int .i64 (k:Int),.string (BA ([]:Bytes))] 85)):=(Below.refl _ _).alloc (Nat.le_refl _) _
       have HRW:=Lib.hid (own_kept SX.out.2.2.1 hbx)
       have HX5:=Lib.hid (SX.out.1.kept hbx)
       have MX:=Lib.hid (Stp.trans SX.out.2.1 (Stp.of hbx))
       have WX_:=Lib.hid (SX.out.2.2.2.kept hbx)
       have HNW:=Lib.hid (blk_cells (Blk.new wr5 85 #[.int .i64 (k:Int),.string (BA ([]:Bytes))]))
       have hbd:=HL3.out.bd
       have hlen:l.length≤1100:=by omega
       clear hbx hbd cw
       go_wp2_with (at_builtin;refine wpList_append_own _ rfl _ _ _ rfl W.heap.size 85 i0 _ 2 24 (by kernel_rfl) hi0 hz0 hz1 hz2 rfl (by decide) _ l.length (aggsL l) rfl HRW.out ⟨wr5.heap.size,0,none⟩ 1 1 [.int .i64 (k:Int),.string (BA ([]:Bytes))] rfl rfl HNW.out (by simp [Value.oneCell']) (by simp only [maxLen];omega) (by omega) MX.out.size ?_)
       intro lv' w8 ho hgr _
       have hlv:∀ k,u4.ownBlock=some k→W.heap.size≤k:=fun k hk=>(HRW.out.lt k hk).1
       obtain ⟨g1,g2⟩:=RF.grown H.out HX5.out MX.out hgr hlv (fun ts ns e=>HST.out ts ns e)
       have hgw:u4.ownBlock≠some g:=fun e=>by
        obtain ⟨cur,hc⟩:=row_block HRW.out e
        have:=block_types hc WX_.out
        cases this
       have hw8:Blk w8 g 9 (strsL ([]::kw_aggs)).toArray:=(hgr.block g WX_.out.lt (fun e=>hgw e.symm)).trans WX_.out
       have HO8:=Lib.hid ho
       have G8:=Lib.hid (And.intro g1 (And.intro g2 hw8))
       have hsee:=sees_r kw_comma g1
       have hnr:∀ {wz:World},wz.ownsRow W.heap.size 85 2 lv' (l.length+1) (aggsL l++[.int .i64 (k:Int),.string (BA ([]:Bytes))])→lv'.ownBlock≠some r:=fun ho e=>by
        have h3:=(ho.lt _ e).1
        have h4:=H.out.box.lt
        omega
       have HNR:=Lib.hid (hnr ho)
       clear ho hgr hlv g1 g2 hgw hw8 hnr
       cases hs2:seesR kw_comma (.ok (ts1,ns):RSt) with
       | false =>
         rw [hs2,seesR_no hs2] at hsee
         have HSE:=Lib.hid hsee
         have HSTOP:=Lib.hid (HL3.out.stop HY.out.1 HY.out.2.2 (by rw [HY.out.2.1];exact hs2))
         clear hsee hs2
         go_wp2_with fail
         refine HSE.out.mono ?_
         rintro e w9 ⟨rfl,h9,m9⟩
         have HF:=Lib.hid (And.intro (show RF base r tv T deep (run aggs st) nv w9 by rw [HSTOP.out.1,HY.out.2.1];exact h9) (Stp.trans G8.out.2.1 m9))
         have HRO:=Lib.hid (row_mv HO8.out m9 HNR.out)
         clear h9 m9
         go_wp2_with fail
         exact bodyPost_ret (results_tmp rfl _ _ _) rfl ⟨lv',l++[(k,([]:Bytes))],rfl,HSTOP.out.2,by rw [List.length_append,show aggsL (l++[(k,([]:Bytes))])=aggsL l++[.int .i64 (k:Int),.string (BA ([]:Bytes))] by simp [aggsL]];exact HRO.out,HF.out⟩
       | true =>
         obtain ⟨t9,ts9,ns9,hst9,hn9,hsw9⟩:=seesR_ok hs2
         rw [hs2,hn9] at hsee
         have HSE:=Lib.hid hsee
         have HNX:=Lib.hid (And.intro hst9 hsw9)
         clear hsee hs2 hst9 hn9 hsw9
         go_wp2_with fail
         refine HSE.out.mono ?_
         rintro e w9 ⟨rfl,h9,m9⟩
         have hy9:IsAgg (.ok (t::ts1,ns)) (.ok ((k,([]:Bytes)),t9::ts9,ns9)) (k,([]:Bytes))∧measA (.ok ((k,([]:Bytes)),t9::ts9,ns9):XA)<measS (.ok (t::ts1,ns)):=by
          have e1:=HY.out.2.1
          rw [HNX.out.1] at e1
          have e2:=HY.out.1
          have e3:=HY.out.2.2
          rcases hyy:(.ok ((k,[]),ts1,ns):XA) with er | ⟨a',ts',ns'⟩
          ·rw [hyy] at e1;cases e1
          ·rw [hyy] at e1 e2 e3
           cases e1
           have:=e2.2 _ _ _ rfl
           subst this
           exact ⟨e2,e3⟩
         obtain ⟨f2,hgk9,hm9⟩:=HL3.out.next hy9.1 hy9.2 HNX.out.2 h9 (Stp.trans G8.out.2.1 m9) (row_mv HO8.out m9 HNR.out) (m9.blk G8.out.2.2 hgr) (HST.out _ _ (by rw [HNX.out.1]))
         have HGK9:=Lib.hid hgk9
         clear h9 m9 hy9 hgk9
         go_wp2_with fail
         go_roundg (measS (.ok (ts9,ns9))+1)
         case measure=>omega
         case rel=>exact ⟨f2,_,_,by omega,HGK9.out⟩
      ·have q8:decide ((1:Int)<(k:Int))=true:=decide_eq_true (by omega)
       have q9:(1:Int)<(k:Int):=by omega
       obtain ⟨wr5,hwr5⟩:∃ wr5,wr5=wr4.alloc (.cells #[.int .i64 (k:Int),.string ⟨#[]⟩] 85):=⟨_,rfl⟩
       have hb5:Below wr4.heap.size wr4 wr5:=by rw [hwr5];exact (Below.refl _ _).alloc (Nat.le_refl _) _
       have hx5:Blk wr5 wr4.heap.size 85 #[.int .i64 (k:Int),.string ⟨#[]⟩]:=by rw [hwr5];exact Blk.new wr4 _ _
       have hnr4:u4.ownBlock≠some r:=fun e=>by
        have h3:=(HL3.out.row.lt _ e).1
        have h4:=H.out.box.lt
        omega
       have HR5:=Lib.hid hwr5
       have hab:wr4.heap.size≠r:=(Nat.ne_of_lt H4.out.box.lt).symm
       obtain ⟨ab,habb⟩:∃ ab,ab=wr4.heap.size:=⟨_,rfl⟩
       have SX4:=Lib.hid (H4.out.kept hb5)
       have X5:=Lib.hid hx5
       have B5:=Lib.hid (Stp.of (r:=r) (nv:=.slice none 0 0) hb5)
       have R4:=Lib.hid (row_mv HL3.out.row M4.out hnr4)
       have HNR4:=Lib.hid hnr4
       clear hb5 hx5 hwr5 hnr4
       go_upto_region 11 with (fail)
       rw [show wr4.alloc (.cells #[.int .i64 (k:Int),.string ⟨#[]⟩] 85)=wr5 from HR5.out.symm]
       have HKI:=Lib.hid (kind_r 1 SX4.out)
       go_wp2_with fail
       refine HKI.out.mono ?_
       rintro e w6 ⟨v6,rfl,⟨a6,rfl⟩,h6,m6⟩
       obtain ⟨s,hsv⟩:∃ s,s=(tokR 1 (.ok (ts1,ns))).s:=⟨_,rfl⟩
       rw [← hsv]
       have hy:=agg_two_is (ns:=ns) (by omega) HCH.out
       rw [← hsv] at hy
       have x6:=m6.blk X5.out hab
       have a1:w6.cell? ⟨wr4.heap.size,1,none⟩=some (.string ⟨#[]⟩):=x6.cell 1
       have f1:=x6.free 1
       obtain ⟨w7,hw7⟩:∃ w7,w7=w6.setCell ⟨wr4.heap.size,1,none⟩ (.string (BA s)):=⟨_,rfl⟩
       have BX:=Lib.hid (show Blk w7 wr4.heap.size 85 #[.int .i64 (k:Int),.string (BA s)] by rw [hw7];exact x6.put 1 _)
       have m47:Mv r wr4 w7:=by rw [hw7];exact Mv.far (Stp.trans B5.out m6) (Nat.le_refl _) 1 _
       have b7:Blk w7 r 81 #[tv,.int .i64 ((T.length-leftR (run (take 1) (.ok (ts1,ns))):Nat):Int),nv,.int .i64 (codeR (run (take 1) (.ok (ts1,ns))):Int),.int .i64 (deep:Int)]:=by rw [hw7];exact h6.box.far (Ne.symm hab) _
       obtain ⟨yy,hyy⟩:∃ yy:XA,yy=thenA (goP (take 1) (.ok (ts1,ns))) fun t=>M.pure (k,t.s):=⟨_,rfl⟩
       obtain ⟨st6,hst6⟩:∃ st6,st6=run (take 1) (.ok (ts1,ns)):=⟨_,rfl⟩
       rw [← hyy,← hst6] at hy
       rw [← hst6] at h6 b7
       have SX:=Lib.hid (And.intro (show RF base r tv T deep st6 nv w7 from H4.out.again m47 b7 h6.left h6.suf (fun ts ns e=>run_take_left (by rw [← hst6];exact e))) (And.intro (Stp.trans (Stp.trans HL3.out.mv M4.out) m47) (And.intro (row_mv R4.out m47 HNR4.out) (m47.blk (M4.out.blk HL3.out.wd hgr) hgr))))
       have HY:=Lib.hid (And.intro hy.1 (And.intro hy.2 (show measA yy<measS (.ok (t::ts1,ns)) by
        have e1:=hy.2
        rcases yy with er | ⟨a',ts',ns'⟩
        ·simp [measA,measS]
        ·have e2:(Except.ok (ts',ns'):RSt)=st6:=e1
         rw [hst6] at e2
         obtain ⟨t0,rfl,_,_,_⟩:=take_inv e2.symm
         simp only [measA,measS,List.length_cons]
         omega)))
       have HST:=Lib.hid (show ∀ ts' ns',st6=.ok (ts',ns')→∃ ts'',st=.ok (ts'',ns') from fun ts' ns' e=>by
        rw [hst6] at e
        obtain ⟨ts'',e2⟩:=run_take_left e
        cases e2
        exact HL3.out.still _ _ rfl)
       have HR7:=Lib.hid hw7
       clear h6 m6 hsv hy x6 m47 b7 hyy hst6 hw7
       go_upto_region 13 with (fail)
       rw [show w6.setCell ⟨wr4.heap.size,1,none⟩ (.string (BA s))=w7 from HR7.out.symm]
       rw [← habb] at BX hab ⊢
       clear habb a1 f1
       have a0:w7.cell? ⟨ab,0,none⟩=some (.int .i64 (k:Int)):=BX.out.cell 0
       have a1:w7.cell? ⟨ab,1,none⟩=some (.string (BA s)):=BX.out.cell 1
       have hbx:Below w7.heap.size w7 (w7.alloc (.cells #[.int .i64 (k:Int),.string (BA s)] 85)):=(Below.refl _ _).alloc (Nat.le_refl _) _
       have HRW:=Lib.hid (own_kept SX.out.2.2.1 hbx)
       have HX5:=Lib.hid (SX.out.1.kept hbx)
       have MX:=Lib.hid (Stp.trans SX.out.2.1 (Stp.of hbx))
       have WX_:=Lib.hid (SX.out.2.2.2.kept hbx)
       have HNW:=Lib.hid (blk_cells (Blk.new w7 85 #[.int .i64 (k:Int),.string (BA s)]))
       have hbd:=HL3.out.bd
       have hlen:l.length≤1100:=by omega
       clear hbx hbd cw
       go_wp2_with (at_builtin;refine wpList_append_own _ rfl _ _ _ rfl W.heap.size 85 i0 _ 2 24 (by kernel_rfl) hi0 hz0 hz1 hz2 rfl (by decide) _ l.length (aggsL l) rfl HRW.out ⟨w7.heap.size,0,none⟩ 1 1 [.int .i64 (k:Int),.string (BA s)] rfl rfl HNW.out (by simp [Value.oneCell']) (by simp only [maxLen];omega) (by omega) MX.out.size ?_)
       intro lv' w8 ho hgr _
       have hlv:∀ k,u4.ownBlock=some k→W.heap.size≤k:=fun k hk=>(HRW.out.lt k hk).1
       obtain ⟨g1,g2⟩:=RF.grown H.out HX5.out MX.out hgr hlv (fun ts ns e=>HST.out ts ns e)
       have hgw:u4.ownBlock≠some g:=fun e=>by
        obtain ⟨cur,hc⟩:=row_block HRW.out e
        have:=block_types hc WX_.out
        cases this
       have hw8:Blk w8 g 9 (strsL ([]::kw_aggs)).toArray:=(hgr.block g WX_.out.lt (fun e=>hgw e.symm)).trans WX_.out
       have HO8:=Lib.hid ho
       have G8:=Lib.hid (And.intro g1 (And.intro g2 hw8))
       have hsee:=sees_r kw_comma g1
       have hnr:∀ {wz:World},wz.ownsRow W.heap.size 85 2 lv' (l.length+1) (aggsL l++[.int .i64 (k:Int),.string (BA s)])→lv'.ownBlock≠some r:=fun ho e=>by
        have h3:=(ho.lt _ e).1
        have h4:=H.out.box.lt
        omega
       have HNR:=Lib.hid (hnr ho)
       clear ho hgr hlv g1 g2 hgw hw8 hnr
       cases hs2:seesR kw_comma st6 with
       | false =>
         rw [hs2,seesR_no hs2] at hsee
         have HSE:=Lib.hid hsee
         have HSTOP:=Lib.hid (HL3.out.stop HY.out.1 HY.out.2.2 (by rw [HY.out.2.1];exact hs2))
         clear hsee hs2
         go_wp2_with fail
         refine HSE.out.mono ?_
         rintro e w9 ⟨rfl,h9,m9⟩
         have HF:=Lib.hid (And.intro (show RF base r tv T deep (run aggs st) nv w9 by rw [HSTOP.out.1,HY.out.2.1];exact h9) (Stp.trans G8.out.2.1 m9))
         have HRO:=Lib.hid (row_mv HO8.out m9 HNR.out)
         clear h9 m9
         go_wp2_with fail
         exact bodyPost_ret (results_tmp rfl _ _ _) rfl ⟨lv',l++[(k,s)],rfl,HSTOP.out.2,by rw [List.length_append,show aggsL (l++[(k,s)])=aggsL l++[.int .i64 (k:Int),.string (BA s)] by simp [aggsL]];exact HRO.out,HF.out⟩
       | true =>
         obtain ⟨t9,ts9,ns9,hst9,hn9,hsw9⟩:=seesR_ok hs2
         rw [hs2,hn9] at hsee
         have HSE:=Lib.hid hsee
         have HNX:=Lib.hid (And.intro hst9 hsw9)
         clear hsee hs2 hst9 hn9 hsw9
         go_wp2_with fail
         refine HSE.out.mono ?_
         rintro e w9 ⟨rfl,h9,m9⟩
         have hy9:IsAgg (.ok (t::ts1,ns)) (.ok ((k,s),t9::ts9,ns9)) (k,s)∧measA (.ok ((k,s),t9::ts9,ns9):XA)<measS (.ok (t::ts1,ns)):=by
          have e1:=HY.out.2.1
          rw [HNX.out.1] at e1
          have e2:=HY.out.1
          have e3:=HY.out.2.2
          rcases hyy:(yy:XA) with er | ⟨a',ts',ns'⟩
          ·rw [hyy] at e1;cases e1
          ·rw [hyy] at e1 e2 e3
           cases e1
           have:=e2.2 _ _ _ rfl
           subst this
           exact ⟨e2,e3⟩
         obtain ⟨f2,hgk9,hm9⟩:=HL3.out.next hy9.1 hy9.2 HNX.out.2 h9 (Stp.trans G8.out.2.1 m9) (row_mv HO8.out m9 HNR.out) (m9.blk G8.out.2.2 hgr) (HST.out _ _ (by rw [HNX.out.1]))
         have HGK9:=Lib.hid hgk9
         clear h9 m9 hy9 hgk9
         go_wp2_with fail
         go_roundg (measS (.ok (ts9,ns9))+1)
         case measure=>omega
         case rel=>exact ⟨f2,_,_,by omega,HGK9.out⟩
   ·obtain rfl:k=7:=by omega
    have HNO:=Lib.hid (HL.out.none HA.out)
    have HFL:=Lib.hid (fail_r HL.out.rf)
    go_wp2_with fail
    refine HFL.out.mono ?_
    rintro e wr2 ⟨rfl,h7,m7⟩
    have HF:=Lib.hid (And.intro (show RF base r tv T deep (run aggs st) nv wr2 by rw [HNO.out.1];exact h7) (Stp.trans HL.out.mv m7))
    have HRO:=Lib.hid (row_mv HL.out.row m7 (fun e=>by
     have h3:=(HL.out.row.lt _ e).1
     have h4:=H.out.box.lt
     omega))
    clear h7 m7
    go_wp2_with fail
    exact bodyPost_ret (results_tmp rfl _ _ _) rfl ⟨u4,l,rfl,fun acc ts ns e=>absurd e (HNO.out.2 acc ts ns),HRO.out,HF.out⟩
end
end Go.Proofs.YtnaehhpikhlppaaGreatDoor
