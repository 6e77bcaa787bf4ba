/- Several texts of the proof, joined. -/
import Derived.Test.YtnaehhpikhlppaaGreatDoorE37
set_option maxHeartbeats 4000000
set_option maxRecDepth 100000
set_option linter.unusedVariables false
set_option linter.unusedSimpArgs false
namespace Go.Proofs.YtnaehhpikhlppaaGreatDoor
open Go.RowKit LexS ParS BigFrame
attribute [local go_sem] field_tok1 field_tok2
attribute [local go_sem] World.cell?_alloc_some cell_drewN_new free_drewN_new cell_drew_new free_drew_new
section
variable {base r deep d2 b g:Nat} {tv nv nv' nv1:Value} {T:List Tok} {st st1 st2:RSt} {ts ts1 ts2:List Tk} {ns ns1:List Nd} {W W' Wk w1 w2 W1 wr wr2:World} {s:Bytes} {n:Int}
theorem take_inv {k:Nat} (h:run (take k) (.ok (ts,ns))=.ok (ts1,ns1)):∃ t,ts=t::ts1∧t.kind=k∧ns1=ns∧tokR k (.ok (ts,ns))=t:=by
 cases ts with
 | nil=>cases h
 | cons t ts2 =>
   by_cases hk:t.kind=k
   ·subst hk
    rw [run_take_ok.1] at h
    cases h
    exact ⟨t,rfl,rfl,rfl,run_take_ok.2⟩
   ·have e:take k (t::ts2) ns=.error (ts2.length+1,false):=if_neg hk
    unfold run goP at h
    dsimp only at h
    rw [e] at h
    cases h
theorem take_bad_inv {k:Nat} {er:Er} (h:run (take k) (.ok (ts,ns))=.error er):(∀ t ts1,ts=t::ts1→t.kind≠k)∧er=(ts.length,false):=by
 cases ts with
 | nil=>cases h;exact ⟨(fun t ts1 e=>by cases e),rfl⟩
 | cons t ts2 =>
   by_cases hk:t.kind=k
   ·subst hk
    rw [run_take_ok.1] at h
    cases h
   ·have e:take k (t::ts2) ns=.error (ts2.length+1,false):=if_neg hk
    unfold run goP at h
    dsimp only at h
    rw [e] at h
    cases h
    exact ⟨(fun u us e=>by cases e;exact hk),rfl⟩
theorem seesR_none {w:Bytes} (h:seesR w (.ok (ts,ns))=false):sees w ts=none:=by
 have h':isS w ts=false:=h
 unfold isS at h'
 cases e:sees w ts with
 | none=>rfl
 | some x=>rw [e] at h';cases h'
theorem leaf_has_run {t:Tk} (h1:run (take 1) (.ok (ts,ns))=.ok (t::ts1,ns1)) (h2:sees kw_has (t::ts1)=some ts1) {nd:Nd} (hnd:nd = {node 15 [] with s:=(tokR 1 (.ok (ts,ns))).s,v:=⟨2,0,(tokR 3 (.ok (ts1,ns1))).s⟩}) :
 stOf (leaf ts ns)=run (lay nd) (run (take 3) (.ok (ts1,ns1)))∧∀ a ts' ns',leaf ts ns=.ok (a,ts',ns')→∃ ts'' ns'',run (take 3) (.ok (ts1,ns1))=.ok (ts'',ns'')∧a=ns''.length:=by
 obtain ⟨t0,rfl,hk,rfl,ht0⟩:=take_inv h1
 rw [ht0] at hnd
 have e:leaf (t0::t::ts1) ns1=M.bind (take 3) (fun u=>lay {node 15 [] with s:=t0.s,v:=⟨2,0,u.s⟩}) ts1 ns1:=by
  rw [leaf_word rfl hk,h2]
 rw [e]
 cases ts1 with
 | nil=>exact ⟨rfl,fun a ts' ns' e=>by cases e⟩
 | cons u us =>
   by_cases h3:u.kind=3
   ·have e1:take 3 (u::us) ns1=.ok (u,us,ns1):=if_pos h3
    have e2:tokR 3 (.ok (u::us,ns1))=u:=by unfold tokR goP;dsimp only;rw [e1]
    have e3:run (take 3) (.ok (u::us,ns1))=.ok (us,ns1):=by unfold run goP;dsimp only;rw [e1];rfl
    rw [e2] at hnd
    rw [bind_eq e1,e3,hnd]
    exact ⟨rfl,fun a ts' ns' e=>by cases e;exact ⟨_,_,rfl,rfl⟩⟩
   ·have e1:take 3 (u::us) ns1=.error (us.length+1,false):=if_neg h3
    have e3:run (take 3) (.ok (u::us,ns1))=.error (us.length+1,false):=by unfold run goP;dsimp only;rw [e1];rfl
    unfold M.bind
    rw [e1,e3]
    exact ⟨rfl,fun a ts' ns' e=>by cases e⟩
theorem leaf_nosign (h1:run (take 1) (.ok (ts,ns))=st1) (h2:seesR kw_has st1=false) (h3:∀ ts1 ns,st1=.ok (ts1,ns)→choice kw_signs 1 ts1=(0,ts1)):stOf (leaf ts ns)=failR st1∧∀ a ts' ns',leaf ts ns≠.ok (a,ts',ns'):=by
 rcases st1 with er | ⟨ts1,ns1⟩
 ·obtain ⟨e1,e2⟩:=take_bad_inv h1
  rw [leaf_bad e1,e2]
  exact ⟨rfl,fun a ts' ns' e=>by cases e⟩
 ·obtain ⟨t,rfl,hk,rfl,_⟩:=take_inv h1
  rw [leaf_sign_bad rfl hk (seesR_none h2) (h3 _ _ rfl)]
  exact ⟨rfl,fun a ts' ns' e=>by cases e⟩
theorem leaf_sign {k:Nat} (h1:run (take 1) (.ok (ts,ns))=.ok (ts1,ns1)) (h2:seesR kw_has (.ok (ts1,ns1))=false) (h3:choice kw_signs 1 ts1=(k+1,ts2)) {v:Val} (hv:∀ v' ts' ns',goP value (.ok (ts2,ns1))=.ok (v',ts',ns')→v'=v) {nd:Nd} (hnd:nd = {node 14 [] with s:=(tokR 1 (.ok (ts,ns))).s,n:=((k+1:Nat):Int),v:=v}) :
 stOf (leaf ts ns)=run (lay nd) (run value (.ok (ts2,ns1)))∧∀ a ts' ns',leaf ts ns=.ok (a,ts',ns')→∃ ts'' ns'',run value (.ok (ts2,ns1))=.ok (ts'',ns'')∧a=ns''.length:=by
 obtain ⟨t,rfl,hk,rfl,ht0⟩:=take_inv h1
 rw [ht0] at hnd
 have hv':∀ v' ts' ns',value ts2 ns1=.ok (v',ts',ns')→v'=v:=hv
 have hrun:run value (.ok (ts2,ns1))=stOf (value ts2 ns1):=rfl
 rw [hrun]
 rcases hval:value ts2 ns1 with er | ⟨v',ts3,ns3⟩
 ·rw [leaf_cmp_err rfl hk (seesR_none h2) h3 hval]
  exact ⟨rfl,fun a ts' ns' e=>by cases e⟩
 ·have e:=hv' _ _ _ hval
  subst e
  rw [leaf_cmp rfl hk (seesR_none h2) h3 hval,hnd]
  exact ⟨rfl,fun a ts' ns' e=>by cases e;exact ⟨_,_,rfl,rfl⟩⟩
theorem still_run_value (e:run value st=.ok (ts,ns)):∃ ts',st=.ok (ts',ns):=by
 rcases st with er | ⟨ts2,ns2⟩
 ·cases e
 ·have e':stOf (value ts2 ns2)=.ok (ts,ns):=e
  rcases hv:value ts2 ns2 with er | ⟨v,ts3,ns3⟩
  ·rw [hv] at e';cases e'
  ·rw [hv] at e'
   cases e'
   rw [still_value _ _ _ _ _ hv]
   exact ⟨_,rfl⟩
def SG (st1:RSt) (k n:Nat) (st':RSt):Prop :=
 (n=0∧st'=st1∧∀ ts1 ns,st1=.ok (ts1,ns)→choice kw_signs 1 ts1=choice (kw_signs.drop (k-1)) k ts1) ∨
 ∃ j ts1 ts2 ns,n=j+1∧st1=.ok (ts1,ns)∧choice kw_signs 1 ts1=(j+1,ts2)∧st'=.ok (ts2,ns)
theorem drop_sign {k:Nat} {w:Bytes} (h1:1≤k) (hw:kw_signs[k-1]?=some w):kw_signs.drop (k-1)=w::kw_signs.drop k:=by
 obtain ⟨hl,rfl⟩:=List.getElem?_eq_some_iff.1 hw
 rw [List.drop_eq_getElem_cons hl]
 congr 1
 rw [show k-1+1=k by omega]
theorem SG.miss {k:Nat} {w:Bytes} (h1:1≤k) (hw:kw_signs[k-1]?=some w) (h:∀ ts1 ns,st1=.ok (ts1,ns)→choice kw_signs 1 ts1=choice (kw_signs.drop (k-1)) k ts1) (hs:seesR w st1=false):SG st1 (k+1) 0 st1:=by
 refine .inl ⟨rfl,rfl,fun ts1 ns e=>?_⟩
 subst e
 rw [h _ _ rfl,drop_sign h1 hw,show k+1-1=k by omega]
 show (match sees w ts1 with | some x=>(k,x) | none=>choice (kw_signs.drop k) (k+1) ts1)=_
 rw [seesR_none hs]
theorem SG.hit {k:Nat} {w:Bytes} {t:Tk} (h1:1≤k) (hw:kw_signs[k-1]?=some w) (h:∀ ts1 ns,st1=.ok (ts1,ns)→choice kw_signs 1 ts1=choice (kw_signs.drop (k-1)) k ts1) (he:st1=.ok (t::ts2,ns)) (hs:sees w (t::ts2)=some ts2) (k2:Nat):SG st1 k2 k (.ok (ts2,ns)):=by
 refine .inr ⟨k-1,t::ts2,ts2,ns,by omega,he,?_,rfl⟩
 rw [h _ _ he,drop_sign h1 hw]
 show (match sees w (t::ts2) with | some x=>(k,x) | none=>choice (kw_signs.drop k) (k+1) (t::ts2))=_
 rw [hs,show k-1+1=k by omega]
structure SKn (base r:Nat) (tv:Value) (T:List Tok) (deep:Nat) (W:World) (b g:Nat) (s:Bytes) (n:Int) (st:RSt) (nv:Value) (wr:World):Prop where
 rs:RF base r tv T deep st nv wr
 mv:Mv r W wr
 bx:Blk wr b 42 (leafM 14 s n noVal).cells.toArray
 sg:Blk wr g 9 (strsL ([]::kw_signs)).toArray
structure SFn (W:World) (r b g:Nat) (tv nv:Value):Prop where
 br:b≠r
 gr:g≠r
 bg:b≠g
 nb:nv.ownBlock≠some b
 tb:tv.ownBlock≠some b
 hb:W.heap.size≤b
theorem SKn.move (h:SKn base r tv T deep W b g s n st nv wr) (f:SFn W r b g tv nv) (h2:RF base r tv T deep st2 nv wr2) (m:Mv r wr wr2):SKn base r tv T deep W b g s n st2 nv wr2:=⟨h2,Stp.trans h.mv m,m.blk h.bx f.br,m.blk h.sg f.gr⟩
theorem SKn.setN (h:SKn base r tv T deep W b g s n st nv wr) (f:SFn W r b g tv nv) (k:Int):SKn base r tv T deep W b g s k st nv (wr.setCell ⟨b,2,none⟩ (.int .i64 k)) :=
 ⟨h.rs.far h.bx (by decide) f.tb f.nb f.br 2 _,h.mv.far f.hb 2 _,n_stored h.bx,h.sg.far f.bg.symm _⟩
theorem RF.puts (hr:b≠r) (ht:tv.ownBlock≠some b) (hn:nv.ownBlock≠some b):∀ (vs:List Value) {W:World} {l:List Value} (o:Nat),RF base r tv T deep st nv W→Blk W b 42 l.toArray→RF base r tv T deep st nv (W.setCells b o vs)
 | [],W,l,o,h,hb=>h
 | v::s,W,l,o,h,hb=>RF.puts hr ht hn s (o+1) (h.far hb (by decide) ht hn hr o v) (box_put hb o v)
theorem leaf_lays {kd:Nat} {v:Val} {nd:Nd} (h:RF base r tv T deep st nv wr) (hbase:base≤wr.heap.size) (hroom:∀ ts ns,st=.ok (ts,ns)→ns.length<5000) (hnd:nd = {node kd [] with s:=s,n:=n,v:=v}) :
 Calls Tryz.prog 68 #[RP r,.agg (leafM kd s n v).cells.toArray] wr (LayP base r tv T deep st nd nv wr) :=
 lay_r nd _ h hbase fun ts ns e=>⟨hroom ts ns e,leafM kd s n v,rfl,leafM_ok _ _ _ _ _ _,hnd.symm⟩
theorem rnot_leaf (h:RF base r tv T deep (.ok (ts,ns)) nv W) (hbase:base≤W.heap.size) (hB:Room (.ok (ts,ns))) (hs:seesR kw_not (.ok (ts,ns))=false) (ho:seesR kw_open (.ok (ts,ns))=false) :
 Calls Tryz.prog 110 #[RP r] W (PostR base r tv T deep nv W (leaf ts ns)):=by
 have c3:W.cell? ⟨r,3,none⟩=some (.int .i64 0):=h.box.cell 3
 have hsee:=sees_r kw_not h
 rw [hs,seesR_no hs] at hsee
 have HS:=Lib.hid hsee
 have HO:=Lib.hid ho
 have hrt:r<W.heap.size:=h.box.lt
 have HLT:=Lib.hid h.own_lt
 have hroom:ns.length<5000:=by have:=hB _ _ rfl;omega
 have HRM:=Lib.hid hroom
 clear hsee hs ho h hB hroom
 go_enter Tryz.func110,Tryz.ntmps110
 go_wp2_with fail
 refine HS.out.mono ?_
 rintro e w1 ⟨rfl,h1,m1⟩
 have hsee:=sees_r kw_open h1
 rw [HO.out,seesR_no HO.out] at hsee
 have HS2:=Lib.hid hsee
 have M1:=Lib.hid m1
 clear h1 m1 hsee c3
 go_wp2_with fail
 refine HS2.out.mono ?_
 rintro e w2 ⟨rfl,h2,m2⟩
 have M2:=Lib.hid (M1.out.trans m2)
 have HN:=Lib.hid (kind_r 1 h2)
 clear h2 m2
 go_wp2_with fail
 refine HN.out.mono ?_
 rintro e w3 ⟨v3,rfl,⟨a3,rfl⟩,h3,m3⟩
 obtain ⟨st1,hst1⟩:∃ st1,st1=run (take 1) (.ok (ts,ns)):=⟨_,rfl⟩
 obtain ⟨t,htt⟩:∃ t,t=tokR 1 (.ok (ts,ns)):=⟨_,rfl⟩
 rw [← hst1] at h3
 rw [← htt]
 have HT:=Lib.hid (And.intro hst1 htt)
 have M3:=Lib.hid (M2.out.trans m3)
 have H3:=Lib.hid h3
 have hrm1:∀ ts1 ns1,st1=.ok (ts1,ns1)→ns1=ns:=fun ts1 ns1 e=>by
  rw [hst1] at e
  obtain ⟨_,_,_,e2,_⟩:=take_inv e
  exact e2
 have HR1:=Lib.hid hrm1
 have hbn:w3.heap.size≠r:=(Nat.ne_of_lt h3.box.lt).symm
 have hnn:nv.ownBlock≠some w3.heap.size:=fun e=>Nat.lt_irrefl _ (h3.own_lt.2 _ e)
 have htn:tv.ownBlock≠some w3.heap.size:=fun e=>Nat.lt_irrefl _ (h3.own_lt.1 _ e)
 have hth:=nd_there w3
 have HNN:=Lib.hid (And.intro hnn htn)
 clear h3 m3 hst1 htt hrm1 hnn htn
 go_wp2_with (refine wpList_store_mid (by rfl) 42 (.tmp 5) (.tmp 50) (by rfl) w3.heap.size 0 (leafM 14 t.s 0 noVal).cells.toArray (by rfl) (by rfl) hth sizeNode (leafM_one _ _ _ _) ?_
              generalize hw4:World.setCells _ _ _ _=w4
              have F4:=Lib.hid (nd_stored (m:=leafM 14 t.s 0 noVal) hw4)
              clear hw4)
 have B4:=Lib.hid F4.out.2
 have M4:=Lib.hid (M3.out.trans (Stp.of (r:=r) (nv:=.slice none 0 0) F4.out.1))
 have H4:=Lib.hid (H3.out.kept F4.out.1)
 have HS4:=Lib.hid (sees_r kw_has H4.out)
 have hb4:base≤w4.heap.size:=Nat.le_trans hbase M4.out.size
 cases hh:seesR kw_has st1 with
 | true =>
   obtain ⟨t1,ts2,ns2,hst,hn,hsw⟩:=seesR_ok hh
   have hsee:=HS4.out
   rw [hh,hn] at hsee
   have HS5:=Lib.hid hsee
   have HST:=Lib.hid (And.intro hst hsw)
   have hns:=HR1.out _ _ hst
   subst hns
   clear hsee hh hst hn hsw HS4
   refine HS5.out.mono ?_
   rintro e w5 ⟨rfl,h5,m5⟩
   have M5:=Lib.hid (M4.out.trans m5)
   have B5:=Lib.hid (m5.blk B4.out hbn)
   have e0:w5.cell? ⟨w3.heap.size,0,none⟩=some (.int .i64 14):=B5.out.cell 0
   have f0:=B5.out.free 0
   have B6:=Lib.hid (kind_stored (k2:=15) B5.out)
   have H6:=Lib.hid (h5.far B5.out (by decide) HNN.out.2 HNN.out.1 hbn 0 (.int .i64 ((15:Nat):Int)))
   have M6:=Lib.hid (Mv.far M5.out (b:=w3.heap.size) M3.out.size 0 (.int .i64 ((15:Nat):Int)))
   have HK:=Lib.hid (kind_r 3 H6.out)
   clear h5 m5
   go_wp2_with fail
   refine HK.out.mono ?_
   rintro e w7 ⟨v7,rfl,⟨a7,rfl⟩,h7,m7⟩
   obtain ⟨u,huu⟩:∃ u,u=tokR 3 (.ok (ts2,ns2)):=⟨_,rfl⟩
   rw [← huu]
   have M7:=Lib.hid (M6.out.trans m7)
   have B7:=Lib.hid (m7.blk B6.out hbn)
   have H7:=Lib.hid h7
   have HU:=Lib.hid huu
   have ht7:w7.there w3.heap.size 5 11:=box_there B7.out (show 16≤19 by decide)
   clear h7 m7 huu e0 f0
   go_wp2_with (first
    | (refine wpList_store_mid (by rfl) 37 (.tmp 58) (.tmp 57) (by rfl) w3.heap.size 5 (valA ⟨2,0,u.s⟩) (by rfl) (by rfl) ht7 sizeVal (valA_one _) ?_
       generalize hwa:World.setCells _ _ _ _=wa
       have BA:=Lib.hid (val_stored (v:=⟨2,0,u.s⟩) B7.out hwa)
       have HA:=Lib.hid (show RF base r tv T deep (run (take 3) (.ok (ts2,ns2))) nv wa from hwa▸RF.puts hbn HNN.out.2 HNN.out.1 _ 5 H7.out B7.out)
       have MA:=Lib.hid (show Mv r W wa from hwa▸mv_puts M3.out.size _ 5 M7.out)
       clear hwa)
    | (refine wpList_load_mid (by rfl) 42 (.tmp 5) (by rfl) w3.heap.size 0 (by rfl) (leafM 15 t.s 0 ⟨2,0,u.s⟩).cells _ (box_range BA.out) undNode (by rfl) sizeNode ?_))
   have hrun:=leaf_has_run (nd:={node 15 [] with s:=t.s,v:=⟨2,0,u.s⟩}) (HT.out.1.symm.trans HST.out.1) HST.out.2 (by rw [HT.out.2,HU.out])
   have HRUN:=Lib.hid hrun
   clear hrun
   refine (leaf_lays (nd:={node 15 [] with s:=t.s,v:=⟨2,0,u.s⟩}) HA.out (Nat.le_trans hbase MA.out.size) (fun ts' ns' e=>by
    obtain ⟨_,_,_,e2,_⟩:=take_inv e
    rw [e2]
    exact HRM.out) rfl).mono ?_
   rintro e wb ⟨nvb,ib,rfl,hib,hb,sb⟩
   have HF:=Lib.hid (And.intro (show ∀ a ts' ns',leaf ts ns2=.ok (a,ts',ns')→ib=(a:Int) from fun a ts' ns' e=>by
    obtain ⟨ts'',ns'',e2,rfl⟩:=HRUN.out.2 _ _ _ e
    exact hib _ _ e2) (And.intro (show RF base r tv T deep (stOf (leaf ts ns2)) nvb wb by rw [HRUN.out.1];exact hb) ((Mv.stp MA.out nv).trans sb)))
   clear hib hb sb
   go_wp2_with fail
   exact bodyPost_ret (results_tmp rfl _ _ _) rfl ⟨_,_,rfl,HF.out⟩
 | false =>
   have hsee:=HS4.out
   rw [hh,seesR_no hh] at hsee
   have HS5:=Lib.hid hsee
   have HNH:=Lib.hid hh
   clear hsee hh HS4
   refine HS5.out.mono ?_
   rintro e w5 ⟨rfl,h5,m5⟩
   have M5:=Lib.hid (M4.out.trans m5)
   have B5:=Lib.hid (m5.blk B4.out hbn)
   have hgr:w5.heap.size≠r:=(Nat.ne_of_lt h5.box.lt).symm
   have hbg:w3.heap.size≠w5.heap.size:=Nat.ne_of_lt B5.out.lt
   obtain ⟨w6,hw6⟩:∃ w6,w6=w5.alloc (.cells #[.string ⟨#[]⟩,.string ⟨#[61]⟩,.string ⟨#[33,61]⟩,.string ⟨#[60]⟩,.string ⟨#[60,61]⟩,.string ⟨#[62]⟩,.string ⟨#[62,61]⟩] 9):=⟨_,rfl⟩
   have hb6:Below w5.heap.size w5 w6:=by rw [hw6];exact (Below.refl _ _).alloc (Nat.le_refl _) _
   have hl6:Blk w6 w5.heap.size 9 (strsL ([]::kw_signs)).toArray:=by rw [hw6];exact Blk.new w5 _ _
   have HLK:=Lib.hid (show SKn base r tv T deep W w3.heap.size w5.heap.size t.s ((0:Nat):Int) st1 nv w6 from ⟨h5.kept hb6,M5.out.trans (Stp.of hb6),B5.out.kept hb6,hl6⟩)
   have HLF:=Lib.hid (show SFn W r w3.heap.size w5.heap.size tv nv from ⟨hbn,hgr,hbg,HNN.out.1,HNN.out.2,M3.out.size⟩)
   have HW6:=Lib.hid hw6
   obtain ⟨b,hbb⟩:∃ b,b=w3.heap.size:=⟨_,rfl⟩
   obtain ⟨g,hgg⟩:∃ g,g=w5.heap.size:=⟨_,rfl⟩
   clear h5 m5 hb6 hl6 hw6
   go_wp2_with fail
   rw [show w5.alloc (.cells #[.string ⟨#[]⟩,.string ⟨#[61]⟩,.string ⟨#[33,61]⟩,.string ⟨#[60]⟩,.string ⟨#[60,61]⟩,.string ⟨#[62]⟩,.string ⟨#[62,61]⟩] 9)=w6 from HW6.out.symm]
   rw [← hbb,← hgg] at HLK HLF ⊢
   clear hbb hgg hbg hgr hbn hth B4 F4 B5 HNN
   go_loopg [7] (8:Nat) (fun gk c wr => ∃ (k n:Nat) (st':RSt),1≤k∧k≤7∧7<k+gk∧c=.int .i64 (k:Int)∧SKn base r tv T deep W b g t.s (n:Int) st' nv wr∧SG st1 k n st')
   case atStart=>exact ⟨1,0,st1,by omega,by omega,by omega,rfl,HLK.out,.inl ⟨rfl,rfl,fun _ _ _=>rfl⟩⟩
   case round =>
    obtain ⟨k,n,st',hk1,hk7,hgk,rfl,hlk,hsg⟩:=hrel
    have HL:=Lib.hid hlk
    clear HLK
    rcases hsg with ⟨rfl,rfl,hch⟩ | ⟨j,ts1,ts2,ns1,rfl,hst,hch,rfl⟩
    ·have e2:wr.cell? ⟨b,2,none⟩=some (.int .i64 0):=hlk.bx.cell 2
     have f2:=hlk.bx.free 2
     clear hlk
     by_cases hlt:k<7
     ·have q1:decide ((k:Int)<7)=true:=decide_eq_true (by omega)
      have q2:(k:Int)<7:=by omega
      have q3:(0:Int)≤(k:Int):=by omega
      obtain ⟨w,hw⟩:∃ w,kw_signs[k-1]?=some w:=⟨kw_signs[k-1]'(by simp [kw_signs];omega),List.getElem?_eq_getElem _⟩
      have cw:wr.cell? ⟨g,k,none⟩=some (.string (BA w)):=by
       rw [HL.out.sg.cell k]
       have:(strsL ([]::kw_signs))[k]?=some (.string (BA w)):=by
        obtain ⟨k1,rfl⟩:∃ k1,k=k1+1:=⟨k-1,by omega⟩
        have hw':kw_signs[k1]?=some w:=hw
        simp [strsL,hw']
       simpa using this
      have w1_:IntKind.i64.wrap ((k:Int)+1)=(k:Int)+1:=IntWalk.i64_in _ (by omega)
      have HCH:=Lib.hid (And.intro hw hch)
      have hsw:=sees_r w HL.out.rs
      clear hw hch
      cases hs:seesR w st' with
      | false =>
        rw [hs,seesR_no hs] at hsw
        have HSW:=Lib.hid hsw
        have HSG:=Lib.hid (SG.miss hk1 HCH.out.1 HCH.out.2 hs)
        clear hs hsw
        go_wp2_with fail
        refine HSW.out.mono ?_
        rintro e wr2 ⟨rfl,h7,m7⟩
        have HL2:=Lib.hid (HL.out.move HLF.out h7 m7)
        clear h7 m7
        go_wp2_with fail
        go_roundg (gk-1)
        case measure=>omega
        case rel=>exact ⟨k+1,0,_,by omega,by omega,by omega,by go_num,HL2.out,HSG.out⟩
      | true =>
        obtain ⟨t1,ts2,ns1,hst,hn,hsee⟩:=seesR_ok hs
        rw [hs,hn] at hsw
        have HSW:=Lib.hid hsw
        have HSG:=Lib.hid (SG.hit hk1 HCH.out.1 HCH.out.2 hst hsee (k+1))
        clear hs hsw hst hn hsee
        go_wp2_with fail
        refine HSW.out.mono ?_
        rintro e wr2 ⟨rfl,h7,m7⟩
        have hl2:=HL.out.move HLF.out h7 m7
        have e2:wr2.cell? ⟨b,2,none⟩=some (.int .i64 0):=hl2.bx.cell 2
        have f2:=hl2.bx.free 2
        have HL2:=Lib.hid (hl2.setN HLF.out (k:Int))
        clear h7 m7 hl2
        go_wp2_with fail
        go_roundg (gk-1)
        case measure=>omega
        case rel=>exact ⟨k+1,k,_,by omega,by omega,by omega,by go_num,HL2.out,HSG.out⟩
     ·obtain rfl:k=7:=by omega
      have HLN:=Lib.hid (leaf_nosign HT.out.1.symm HNH.out (fun ts1 ns1 e=>by rw [hch _ _ e];rfl))
      have HFL:=Lib.hid (fail_r HL.out.rs)
      clear hch
      go_wp2_with fail
      refine HFL.out.mono ?_
      rintro e wr2 ⟨rfl,h7,m7⟩
      have HF:=Lib.hid (And.intro (show RF base r tv T deep (stOf (leaf ts ns)) nv wr2 by rw [HLN.out.1];exact h7) (Mv.stp (Stp.trans HL.out.mv m7) nv))
      clear h7 m7
      go_wp2_with fail
      exact bodyPost_ret (results_tmp rfl _ _ _) rfl ⟨_,0,rfl,fun a ts' ns' e=>absurd e (HLN.out.2 a ts' ns'),HF.out⟩
    ·obtain ⟨m,hm⟩:∃ m,m=j+1:=⟨_,rfl⟩
     rw [← hm] at hlk HL
     have e2:wr.cell? ⟨b,2,none⟩=some (.int .i64 (m:Int)):=hlk.bx.cell 2
     have q5:((m:Int) == 0)=false:=by rw [beq_eq_false_iff_ne];omega
     have q6:¬ (m:Int)=0:=by omega
     have HM:=Lib.hid hm
     have HST:=Lib.hid (And.intro hst hch)
     have HV:=Lib.hid (value_r HL.out.rs)
     clear hlk hm hst hch
     by_cases hlt:k<7
     ·have q1:decide ((k:Int)<7)=true:=decide_eq_true (by omega)
      have q2:(k:Int)<7:=by omega
      go_wp2_with fail
      refine HV.out.mono ?_
      rintro e w7 ⟨v,rfl,hv,h7,m7⟩
      have hl7:=HL.out.move HLF.out h7 m7
      have HV7:=Lib.hid hv
      have HL7:=Lib.hid hl7
      have ht7:w7.there b 5 11:=box_there hl7.bx (show 16≤19 by decide)
      clear h7 m7 hl7 hv e2
      go_wp2_with (first
       | (refine wpList_store_mid (by rfl) 37 (.tmp 87) (.tmp 86) (by rfl) b 5 (valA v) (by rfl) (by rfl) ht7 sizeVal (valA_one _) ?_
          generalize hwa:World.setCells _ _ _ _=wa
          have BA:=Lib.hid (val_stored (v:=v) HL7.out.bx hwa)
          have HA:=Lib.hid (show RF base r tv T deep (run value (.ok (ts2,ns1))) nv wa from hwa▸RF.puts HLF.out.br HLF.out.tb HLF.out.nb _ 5 HL7.out.rs HL7.out.bx)
          have MA:=Lib.hid (show Mv r W wa from hwa▸mv_puts HLF.out.hb _ 5 HL7.out.mv)
          clear hwa)
       | (refine wpList_load_mid (by rfl) 42 (.tmp 5) (by rfl) b 0 (by rfl) (leafM 14 t.s (m:Int) v).cells _ (box_range BA.out) undNode (by rfl) sizeNode ?_))
      have HRUN:=Lib.hid (leaf_sign (nd:={node 14 [] with s:=t.s,n:=(m:Int),v:=v}) (HT.out.1.symm.trans HST.out.1) (by rw [← HST.out.1];exact HNH.out) HST.out.2 HV7.out (by rw [HT.out.2,HM.out]))
      refine (leaf_lays (nd:={node 14 [] with s:=t.s,n:=(m:Int),v:=v}) HA.out (Nat.le_trans hbase MA.out.size) (fun ts' ns' e=>by
       obtain ⟨ts0,e0⟩:=still_run_value e
       cases e0
       rw [HR1.out _ _ HST.out.1]
       exact HRM.out) rfl).mono ?_
      rintro e wb ⟨nvb,ib,rfl,hib,hb,sb⟩
      have HF:=Lib.hid (And.intro (show ∀ a ts' ns',leaf ts ns=.ok (a,ts',ns')→ib=(a:Int) from fun a ts' ns' e=>by
       obtain ⟨ts'',ns'',e2,rfl⟩:=HRUN.out.2 _ _ _ e
       exact hib _ _ e2) (And.intro (show RF base r tv T deep (stOf (leaf ts ns)) nvb wb by rw [HRUN.out.1];exact hb) ((Mv.stp MA.out nv).trans sb)))
      clear hib hb sb
      go_wp2_with fail
      exact bodyPost_ret (results_tmp rfl _ _ _) rfl ⟨_,_,rfl,HF.out⟩
     ·have q1:decide ((k:Int)<7)=false:=decide_eq_false (by omega)
      have q2:¬ (k:Int)<7:=by omega
      go_wp2_with fail
      refine HV.out.mono ?_
      rintro e w7 ⟨v,rfl,hv,h7,m7⟩
      have hl7:=HL.out.move HLF.out h7 m7
      have HV7:=Lib.hid hv
      have HL7:=Lib.hid hl7
      have ht7:w7.there b 5 11:=box_there hl7.bx (show 16≤19 by decide)
      clear h7 m7 hl7 hv e2
      go_wp2_with (first
       | (refine wpList_store_mid (by rfl) 37 (.tmp 87) (.tmp 86) (by rfl) b 5 (valA v) (by rfl) (by rfl) ht7 sizeVal (valA_one _) ?_
          generalize hwa:World.setCells _ _ _ _=wa
          have BA:=Lib.hid (val_stored (v:=v) HL7.out.bx hwa)
          have HA:=Lib.hid (show RF base r tv T deep (run value (.ok (ts2,ns1))) nv wa from hwa▸RF.puts HLF.out.br HLF.out.tb HLF.out.nb _ 5 HL7.out.rs HL7.out.bx)
          have MA:=Lib.hid (show Mv r W wa from hwa▸mv_puts HLF.out.hb _ 5 HL7.out.mv)
          clear hwa)
       | (refine wpList_load_mid (by rfl) 42 (.tmp 5) (by rfl) b 0 (by rfl) (leafM 14 t.s (m:Int) v).cells _ (box_range BA.out) undNode (by rfl) sizeNode ?_))
      have HRUN:=Lib.hid (leaf_sign (nd:={node 14 [] with s:=t.s,n:=(m:Int),v:=v}) (HT.out.1.symm.trans HST.out.1) (by rw [← HST.out.1];exact HNH.out) HST.out.2 HV7.out (by rw [HT.out.2,HM.out]))
      refine (leaf_lays (nd:={node 14 [] with s:=t.s,n:=(m:Int),v:=v}) HA.out (Nat.le_trans hbase MA.out.size) (fun ts' ns' e=>by
       obtain ⟨ts0,e0⟩:=still_run_value e
       cases e0
       rw [HR1.out _ _ HST.out.1]
       exact HRM.out) rfl).mono ?_
      rintro e wb ⟨nvb,ib,rfl,hib,hb,sb⟩
      have HF:=Lib.hid (And.intro (show ∀ a ts' ns',leaf ts ns=.ok (a,ts',ns')→ib=(a:Int) from fun a ts' ns' e=>by
       obtain ⟨ts'',ns'',e2,rfl⟩:=HRUN.out.2 _ _ _ e
       exact hib _ _ e2) (And.intro (show RF base r tv T deep (stOf (leaf ts ns)) nvb wb by rw [HRUN.out.1];exact hb) ((Mv.stp MA.out nv).trans sb)))
      clear hib hb sb
      go_wp2_with fail
      exact bodyPost_ret (results_tmp rfl _ _ _) rfl ⟨_,_,rfl,HF.out⟩
end
theorem thenX_bind (p:M Nat) (f:Nat→M Nat) (ts:List Tk) (ns:List Nd):M.bind p f ts ns=thenX (p ts ns) f:=by
 unfold M.bind
 rcases p ts ns with er | ⟨a,ts2,ns2⟩<;>rfl
theorem rnot_step {deep:Nat} {a c pn pc:M Nat} (hd:deep≤100) (hn:ReadsR (decide (deep<16)) 110 pn (deep+1)) (np:Nice pn) (hc:ReadsR (decide (deep<16)) 34 pc (deep+1)) (nc:Nice pc)
 (ha:∀ ts ns,a ts ns=goP pn (deeperR deep (.ok (ts,ns)))) (hcc:∀ ts ns,c ts ns=thenX (goP pc (deeperR deep (.ok (ts,ns)))) fun a=>M.bind (wants kw_shut) fun _=>M.pure a):ReadsR true 110 (notOf a c) deep:=by
 intro base r tv nv T st W h hbase hB hsure
 rcases st with er | ⟨ts,ns⟩
 ·exact rnot_bad _ _ _ _ _ _ _ _ _ h hbase hB (.inr ⟨_,rfl⟩)
 ·show Calls Tryz.prog 110 #[RP r] W (PostR base r tv T deep nv W (notOf a c ts ns))
  cases ts with
  | nil=>exact rnot_leaf h hbase hB rfl rfl
  | cons t ts1 =>
    cases h1:isW kw_not t with
    | true =>
      have e:notOf a c (t::ts1) ns=thenX (goP pn (deeperR deep (.ok (ts1,ns)))) fun a=>lay (node 13 [a]):=by
       rw [← ha]
       have:sees kw_not (t::ts1)=some ts1:=by rw [sees_cons,h1];rfl
       unfold notOf
       rw [this]
       exact thenX_bind _ _ _ _
      rw [e]
      exact rnot_not hn np hd h hbase hB h1
    | false =>
      have e1:sees kw_not (t::ts1)=none:=by rw [sees_cons,h1];rfl
      cases h2:isW kw_open t with
      | true =>
        have e2:sees kw_open (t::ts1)=some ts1:=by rw [sees_cons,h2];rfl
        rw [notOf_open e1 e2,hcc]
        exact rnot_open hc nc hd h hbase hB h1 h2
      | false =>
        have e2:sees kw_open (t::ts1)=none:=by rw [sees_cons,h2];rfl
        rw [notOf_leaf e1 e2]
        exact rnot_leaf h hbase hB (by rw [seesR_cons,h1]) (by rw [seesR_cons,h2])
theorem rcond_of {b:Bool} {p:M Nat} {deep:Nat} (h:ReadsR b 110 p deep) (n:Nice p):ReadsR b 34 (condOf p) deep:=cond_r (both_r h n) (nice_both n)
theorem rnot_last {deep:Nat} (h:16≤deep) (hd:deep≤100):ReadsR true 110 (pNot 0) deep:=by
 have hb:decide (deep<16)=false:=decide_eq_false (by omega)
 refine rnot_step (pn:=pNot 0) (pc:=condOf (pNot 0)) hd (by rw [hb];exact rnot_bad _ _) (nice_not 0) (by rw [hb];exact rcond_of (rnot_bad _ _) (nice_not 0)) (nice_cond (nice_not 0)) (fun ts ns=>?_) (fun ts ns=>?_)
 ·rw [show deeperR deep (.ok (ts,ns))=.error (ts.length+1,true) from if_neg (by omega)]
  rfl
 ·rw [show deeperR deep (.ok (ts,ns))=.error (ts.length+1,true) from if_neg (by omega)]
  rfl
theorem rnot_all:∀ (d deep:Nat),deep+d=16→ReadsR true 110 (pNot d) deep
 | 0,deep,h=>rnot_last (by omega) (by omega)
 | d+1,deep,h=>by
   have hb:decide (deep<16)=true:=decide_eq_true (by omega)
   have ih:=rnot_all d (deep+1) (by omega)
   refine rnot_step (pn:=pNot d) (pc:=condOf (pNot d)) (by omega) (by rw [hb];exact ih) (nice_not d) (by rw [hb];exact rcond_of ih (nice_not d)) (nice_cond (nice_not d)) (fun ts ns=>?_) (fun ts ns=>?_)
   ·rw [show deeperR deep (.ok (ts,ns))=.ok (ts,ns) from if_pos (by omega)]
    rfl
   ·rw [show deeperR deep (.ok (ts,ns))=.ok (ts,ns) from if_pos (by omega)]
    exact thenX_bind _ _ _ _
theorem rcond_all (d deep:Nat) (h:deep+d=16):ReadsR true 34 (pCond d) deep:=rcond_of (rnot_all d deep h) (nice_not d)
end Go.Proofs.YtnaehhpikhlppaaGreatDoor
