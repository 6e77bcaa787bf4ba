/- Several texts of the proof, joined. -/
import Derived.Test.YtnaehhpikhlppaaGreatDoorE41
import Derived.Test.YtnaehhpikhlppaaGreatDoorE19
set_option maxHeartbeats 4000000
set_option maxRecDepth 100000
set_option linter.unusedVariables false
set_option linter.unusedSimpArgs false
namespace Go.Proofs.YtnaehhpikhlppaaGreatDoor
open Go.RowKit LexS ParS BigFrame
attribute [local go_sem] field_tok1 field_tok2
attribute [local go_sem] World.cell?_alloc_some cell_drewN_new free_drewN_new cell_drew_new free_drew_new
def headM:M Nd:=M.bind (wants kw_fetch) fun _=>M.bind (take 1) fun t=>M.bind times fun x=>M.pure {node 1 [] with s:=t.s,from_:=x.1,to_:=x.2}
theorem run_times (st:RSt):run times st=if seesR kw_from st then run (take 2) (run (wants kw_to) (run (take 2) (nextR kw_from st))) else st:=by
 rcases st with e | ⟨ts,ns⟩
 ·rfl
 ·cases hs:seesR kw_from (.ok (ts,ns)) with
  | true =>
    rw [if_pos rfl]
    obtain ⟨t,ts1,ns1,e1,e2,e3⟩:=seesR_ok hs
    cases e1
    rw [e2]
    show stOf (times (t::ts1) ns)=_
    rw [times_some e3]
    exact run_bind_of (p:=take 2) (S:=fun s=>run (take 2) (run (wants kw_to) s)) (fun f ts ns=>run_bind_of (S:=run (take 2)) (fun _ ts ns=>run_bind_of (p:=take 2) (S:=id) (fun _ _ _=>rfl) (fun _=>rfl) (.ok (ts,ns))) (fun _=>rfl) (.ok (ts,ns))) (fun _=>rfl) (.ok (ts1,ns))
  | false =>
    rw [if_neg (by decide)]
    show stOf (times ts ns)=_
    rw [times_none (seesR_none hs)]
    rfl
theorem run_head (st:RSt):run headM st=run times (run (take 1) (run (wants kw_fetch) st)) :=
 run_bind_of (S:=fun s=>run times (run (take 1) s)) (fun _ ts ns=>run_bind_of (S:=run times) (fun t ts ns=>by
  have:=run_bind_of (p:=times) (f:=fun x=>M.pure ({node 1 [] with s:=t.s,from_:=x.1,to_:=x.2}:Nd)) (S:=id) (fun _ _ _=>rfl) (fun _=>rfl) (.ok (ts,ns))
  exact this) (fun _=>rfl) (.ok (ts,ns))) (fun _=>rfl) st
theorem run_of {α:Type} {p:M α} {st:RSt} {a:α} {ts:List Tk} {ns:List Nd} (h:goP p st=.ok (a,ts,ns)):run p st=.ok (ts,ns):=by
 unfold run
 rw [h]
 rfl
theorem times_val1 {st:RSt} {x:Int×Int} {ts:List Tk} {ns:List Nd} (hs:seesR kw_from st=true) (h:goP times st=.ok (x,ts,ns)):x=((tokR 2 (nextR kw_from st)).n,(tokR 2 (run (wants kw_to) (run (take 2) (nextR kw_from st)))).n):=by
 obtain ⟨t,ts1,ns1,rfl,e2,e3⟩:=seesR_ok hs
 rw [e2]
 have h':times (t::ts1) ns1=.ok (x,ts,ns):=h
 rw [times_some e3] at h'
 obtain ⟨f,t3,n3,h3,h4⟩:=bind_ok h'
 obtain ⟨u,t5,n5,h5,h6⟩:=bind_ok h4
 obtain ⟨g,t7,n7,h7,h8⟩:=bind_ok h6
 cases h8
 have r1:run (take 2) (.ok (ts1,ns1))=.ok (t3,n3):=run_of (st:=.ok (ts1,ns1)) h3
 have r2:run (wants kw_to) (.ok (t3,n3))=.ok (t5,n5):=run_of (st:=.ok (t3,n3)) h5
 rw [r1,r2,← tokR_of (st:=.ok (ts1,ns1)) h3,← tokR_of (st:=.ok (t5,n5)) h7]
theorem times_val0 {st:RSt} {x:Int×Int} {ts:List Tk} {ns:List Nd} (hs:seesR kw_from st=false) (h:goP times st=.ok (x,ts,ns)):x=(0,1099511627775):=by
 obtain ⟨t0,n0,rfl,h2⟩:=goP_ok h
 rw [times_none (seesR_none hs)] at h2
 cases h2
 rfl
theorem head_val {st:RSt} {nd:Nd} {ts:List Tk} {ns:List Nd} (h:goP headM st=.ok (nd,ts,ns)):∃ x ts2 ns2,goP times (run (take 1) (run (wants kw_fetch) st))=.ok (x,ts2,ns2)∧nd = {node 1 [] with s:=(tokR 1 (run (wants kw_fetch) st)).s,from_:=x.1,to_:=x.2}:=by
 unfold headM at h
 rw [goP_bind] at h
 obtain ⟨u,t1,n1,h1,h2⟩:=thenA_ok h
 obtain ⟨t,t3,n3,h3,h4⟩:=bind_ok h2
 obtain ⟨x,t5,n5,h5,h6⟩:=bind_ok h4
 cases h6
 have r1:=run_of h1
 have r2:run (take 1) (.ok (t1,n1))=.ok (t3,n3):=run_of (st:=.ok (t1,n1)) h3
 rw [r1,r2]
 exact ⟨x,_,_,h5,by rw [tokR_of (st:=.ok (t1,n1)) h3]⟩
theorem still_head:Still headM:=still_bind (still_wants _) fun _=>still_bind (still_take 1) fun _=>still_bind still_times fun _=>still_pure _
theorem goP_query {step:Nat→M Nat} (st:RSt):goP (queryOf step) st=thenX (thenA (goP headM st) fun nd=>lay nd) fun a=>stepsGo step fuel a:=by
 unfold queryOf headM
 rw [goP_bind,goP_bind]
 rcases goP (wants kw_fetch) st with e | ⟨u,t1,n1⟩
 ·rfl
 show M.bind (take 1) _ t1 n1=thenX (thenA (M.bind (take 1) _ t1 n1) _) _
 rw [thenA_bind,thenA_bind]
 rcases take 1 t1 n1 with e | ⟨t,t3,n3⟩
 ·rfl
 show M.bind times _ t3 n3=thenX (thenA (M.bind times _ t3 n3) _) _
 rw [thenA_bind,thenA_bind]
 rcases times t3 n3 with e | ⟨x,t5,n5⟩
 ·rfl
 rfl
section
variable {base r deep d2:Nat} {tv nv nv' nv0 nv1 nv2 lv:Value} {T:List Tok} {st st1 st2:RSt} {ts ts1 ts2:List Tk} {ns ns1:List Nd} {W W' Wx w1 w2 W1 wr wr2:World} {ri:Int}
def StepC (p:Nat→M Nat) (deep:Nat):Prop := ∀ (base r:Nat) (tv nv:Value) (T:List Tok) (y:XN) (ri:Int) (W:World),RF base r tv T deep (stOf y) nv W→base≤W.heap.size→Room (stOf y)→(∀ a ts ns,y=.ok (a,ts,ns)→ri=(a:Int)) →
 Calls Tryz.prog 81 #[RP r,.int .i64 ri] W (PostR base r tv T deep nv W (thenX y p))
structure QR (base r:Nat) (tv:Value) (T:List Tok) (deep:Nat) (nv:Value) (W:World) (step:Nat→M Nat) (st:RSt) (f:Nat) (y:XN) (i:Int) (nv1:Value) (W1:World):Prop where
 eq:goP (queryOf step) st=thenX y fun a=>stepsGo step f a
 fl:∀ a ts ns,y=.ok (a,ts,ns)→ts.length<f∧i=(a:Int)
 rf:RF base r tv T deep (stOf y) nv1 W1
 sp:Stp r nv W nv1 W1
 bd:Room (stOf y)
theorem QR.stop {step:Nat→M Nat} {f:Nat} {i:Int} {y:XN} (h:QR base r tv T deep nv W step st f y i nv1 W1) (hs:seesR kw_bar (stOf y)=false):goP (queryOf step) st=y:=by
 rw [h.eq]
 rcases y with er | ⟨a,ts,ns⟩
 ·rfl
 ·have hf:=(h.fl _ _ _ rfl).1
  obtain ⟨f1,rfl⟩:∃ f1,f=f1+1:=⟨f-1,by omega⟩
  exact steps_none (seesR_none hs)
theorem QR.next {step:Nat→M Nat} {f:Nat} {i j:Int} {a:Nat} {t:Tk} {W2:World} (h:QR base r tv T deep nv W step st f (.ok (a,t::ts1,ns)) i nv1 W1) (hs:sees kw_bar (t::ts1)=some ts1) (hsh:∀ a,Short (step a)) (hco:∀ a,Cost 0 0 (step a)) {y2:XN} (hy:y2=step a ts1 ns)
 (hj:∀ a ts ns,y2=.ok (a,ts,ns)→j=(a:Int)) (h2:RF base r tv T deep (stOf y2) nv2 W2) (s2:Stp r nv1 W1 nv2 W2):∃ f2,QR base r tv T deep nv W step st f2 y2 j nv2 W2∧measX y2<measX (.ok (a,t::ts1,ns)):=by
 have hf:=(h.fl _ _ _ rfl).1
 obtain ⟨f1,rfl⟩:∃ f1,f=f1+1:=⟨f-1,by omega⟩
 have hbd:=h.bd _ _ rfl
 simp only [List.length_cons] at hf hbd
 rcases hp:step a ts1 ns with er | ⟨b,ts2,ns2⟩
 ·rw [hp] at hy
  subst hy
  refine ⟨f1,⟨?_,fun a ts ns e=>(by cases e),h2,h.sp.trans s2,fun ts ns e=>(by cases e)⟩,by simp [measX]⟩
  rw [h.eq]
  exact steps_err hs hp
 ·rw [hp] at hy
  subst hy
  have h1:=hco a _ _ _ _ _ hp
  have h3:=hsh a hp
  refine ⟨f1,⟨?_,fun a ts ns e=>?_,h2,h.sp.trans s2,fun ts ns e=>?_⟩,?_⟩
  ·rw [h.eq]
   exact steps_ok hs hp
  ·refine ⟨?_,hj _ _ _ e⟩
   cases e
   omega
  ·cases e
   omega
  ·simp only [measX,List.length_cons]
   omega
theorem rel_headM:∀ (ts:List Tk) (ns:List Nd) (a:Nd) (ts1:List Tk) (ns1:List Nd),headM ts ns=.ok (a,ts1,ns1)→ts1.length+2≤ts.length∧True:=by
 intro ts ns a ts1 ns1 h
 unfold headM at h
 obtain ⟨u,t1,n1,h1,h2⟩:=bind_ok h
 obtain ⟨t,t3,n3,h3,h4⟩:=bind_ok h2
 obtain ⟨x,t5,n5,h5,h6⟩:=bind_ok h4
 cases h6
 have e1:t1.length+1=ts.length:=by
  unfold wants at h1
  split at h1
  ·rename_i t' hs
   cases h1
   exact sees_len hs
  ·cases h1
 have e2:t3.length+1=t1.length:=by
  obtain ⟨t0,rfl,_,_,_⟩:=take_inv (run_of (st:=.ok (t1,n1)) h3)
  simp
 have e3:=(rel_times (e:=True) _ _ _ _ _ h5).1
 exact ⟨by omega,trivial⟩
theorem QR.start {step:Nat→M Nat} {i:Int} {nd:Nd} (hnd:∀ nd' ts ns,goP headM st=.ok (nd',ts,ns)→nd'=nd) (hroom:Room st) (hi:∀ ts ns,run headM st=.ok (ts,ns)→i=(ns.length:Int)) (h1:RF base r tv T deep (run (lay nd) (run headM st)) nv1 W1) (s:Stp r nv W nv1 W1) :
 QR base r tv T deep nv W step st fuel (thenA (goP headM st) fun nd=>lay nd) i nv1 W1:=by
 have hst:stOf (thenA (goP headM st) fun nd=>lay nd)=run (lay nd) (run headM st):=by
  unfold run
  rcases hx:goP headM st with e | ⟨nd',ts,ns⟩
  ·rfl
  ·rw [hnd _ _ _ hx]
   rfl
 refine ⟨goP_query st,fun a ts ns e=>?_,by rw [hst];exact h1,s,fun ts ns e=>?_⟩
 ·have h2:=h1.left
  have h3:=h1.few
  rw [← hst,e] at h2
  have h2':ts.length≤T.length:=h2
  refine ⟨by unfold fuel;omega,?_⟩
  obtain ⟨nd',ts',ns',e1,e2⟩:=thenA_ok e
  cases e2
  exact hi _ _ (run_of e1)
 ·rcases hx:goP headM st with er | ⟨nd',ts',ns'⟩
  ·rw [hx] at e;cases e
  ·rw [hx] at e
   cases e
   obtain ⟨t0,n0,rfl,h0⟩:=goP_ok hx
   have:=still_head _ _ _ _ _ h0
   subst this
   have h5:=hroom _ _ rfl
   obtain ⟨l1,_⟩:=rel_headM _ _ _ _ _ h0
   simp only [List.length_append,List.length_cons,List.length_nil]
   omega
theorem query_r {b:Bool} {step:Nat→M Nat} (hstep:b=true→StepC step deep) (hsh:∀ a,Short (step a)) (hco:∀ a,Cost 0 0 (step a)):ReadsR b 43 (queryOf step) deep:=by
 intro base r tv nv T st W h hbase hB hsure
 have HW:=Lib.hid (wants_r kw_fetch h)
 have H:=Lib.hid h
 have HS0:=Lib.hid (And.intro hstep (And.intro (fun a=>@hsh a) hco))
 have HB:=Lib.hid (And.intro hB hsure)
 clear h hstep hsh hco hB hsure
 go_enter Tryz.func43,Tryz.ntmps43
 go_wp2_with fail
 refine HW.out.mono ?_
 rintro e w1 ⟨rfl,h1,m1⟩
 have M1:=Lib.hid m1
 have HK:=Lib.hid (kind_r 1 h1)
 clear h1 m1
 go_wp2_with fail
 refine HK.out.mono ?_
 rintro e w3 ⟨v3,rfl,⟨a3,rfl⟩,h3,m3⟩
 obtain ⟨t,htt⟩:∃ t,t=tokR 1 (run (wants kw_fetch) st):=⟨_,rfl⟩
 obtain ⟨st1,hst1⟩:∃ st1,st1=run (take 1) (run (wants kw_fetch) st):=⟨_,rfl⟩
 rw [← htt]
 rw [← hst1] at h3
 have HT:=Lib.hid (And.intro htt hst1)
 have M3:=Lib.hid (Stp.trans M1.out m3)
 have H3:=Lib.hid h3
 have hbn:w3.heap.size≠r:=(Nat.ne_of_lt h3.box.lt).symm
 have hnn:nv.ownBlock≠some w3.heap.size:=fun e=>Nat.lt_irrefl _ (h3.own_lt.2 _ e)
 have htn:tv.ownBlock≠some w3.heap.size:=fun e=>Nat.lt_irrefl _ (h3.own_lt.1 _ e)
 have hth:=nd_there w3
 have HNN:=Lib.hid (And.intro hnn htn)
 have hone:(fM t.s 0 1099511627775).cells.toArray.all (·.oneCell')=true:=one_nd 1 t.s 0 0 1099511627775 noVal rfl rfl rfl [] [] []
 clear h3 m3 htt hst1 hnn htn
 go_wp2_with (refine wpList_store_mid (by rfl) 42 (.tmp 3) (.tmp 10) (by rfl) w3.heap.size 0 (fM t.s 0 1099511627775).cells.toArray (by rfl) (by rfl) hth sizeNode hone ?_
              generalize hw4:World.setCells _ _ _ _=w4
              have F4:=Lib.hid (nd_stored (m:=fM t.s 0 1099511627775) hw4)
              clear hw4 hth hone)
 have B4:=Lib.hid F4.out.2
 have M4:=Lib.hid (Stp.trans M3.out (Stp.of (r:=r) (nv:=.slice none 0 0) F4.out.1))
 have H4:=Lib.hid (H3.out.kept F4.out.1)
 have hsee:=sees_r kw_from H4.out
 cases hs:seesR kw_from st1 with
 | true =>
   rw [hs] at hsee
   have HS:=Lib.hid hsee
   have HFR:=Lib.hid hs
   clear hsee hs
   refine HS.out.mono ?_
   rintro e w5 ⟨rfl,h5,m5⟩
   obtain ⟨st3,hst3⟩:∃ st3,st3=nextR kw_from st1:=⟨_,rfl⟩
   rw [← hst3] at h5
   have M5:=Lib.hid (Stp.trans M4.out m5)
   have B5:=Lib.hid (m5.blk B4.out hbn)
   have HK5:=Lib.hid (kind_r 2 h5)
   have HT3:=Lib.hid hst3
   clear h5 m5 hst3
   go_wp2_with fail
   refine HK5.out.mono ?_
   rintro e w6 ⟨v6,rfl,⟨a6,rfl⟩,h6,m6⟩
   obtain ⟨u,huu⟩:∃ u,u=tokR 2 st3:=⟨_,rfl⟩
   rw [← huu]
   have HU:=Lib.hid huu
   have x6:=m6.blk B5.out hbn
   have e3:w6.cell? ⟨w3.heap.size,3,none⟩=some (.int .i64 0):=x6.cell 3
   have f3:=x6.free 3
   have B6:=Lib.hid (show Blk (w6.setCell ⟨w3.heap.size,3,none⟩ (.int .i64 u.n)) w3.heap.size 42 (fM t.s u.n 1099511627775).cells.toArray from box_put x6 3 _)
   have H6:=Lib.hid (h6.far x6 (by decide) HNN.out.2 HNN.out.1 hbn 3 (.int .i64 u.n))
   have M6:=Lib.hid (Mv.far (Stp.trans M5.out m6) (b:=w3.heap.size) M3.out.size 3 (.int .i64 u.n))
   have HW6:=Lib.hid (wants_r kw_to H6.out)
   clear h6 m6 huu x6
   go_wp2_with fail
   refine HW6.out.mono ?_
   rintro e w7 ⟨rfl,h7,m7⟩
   have M7:=Lib.hid (Stp.trans M6.out m7)
   have B7:=Lib.hid (m7.blk B6.out hbn)
   have HK7:=Lib.hid (kind_r 2 h7)
   clear h7 m7 e3 f3
   go_wp2_with fail
   refine HK7.out.mono ?_
   rintro e w8 ⟨v8,rfl,⟨a8,rfl⟩,h8,m8⟩
   obtain ⟨v,hvv⟩:∃ v,v=tokR 2 (run (wants kw_to) (run (take 2) st3)):=⟨_,rfl⟩
   rw [← hvv]
   have HV:=Lib.hid hvv
   have x8:=m8.blk B7.out hbn
   have e4:w8.cell? ⟨w3.heap.size,4,none⟩=some (.int .i64 1099511627775):=x8.cell 4
   have f4:=x8.free 4
   obtain ⟨wa,hwa⟩:∃ wa,wa=w8.setCell ⟨w3.heap.size,4,none⟩ (.int .i64 v.n):=⟨_,rfl⟩
   have BA:=Lib.hid (show Blk wa w3.heap.size 42 (fM t.s u.n v.n).cells.toArray by rw [hwa];exact box_put x8 4 _)
   have hrt:run times st1=run (take 2) (run (wants kw_to) (run (take 2) st3)):=by rw [run_times,HFR.out,if_pos rfl,HT3.out]
   have HA:=Lib.hid (show RF base r tv T deep (run times st1) nv wa by rw [hrt,hwa];exact h8.far x8 (by decide) HNN.out.2 HNN.out.1 hbn 4 (.int .i64 v.n))
   have MA:=Lib.hid (show Mv r W wa by rw [hwa];exact Mv.far (Stp.trans M7.out m8) (b:=w3.heap.size) M3.out.size 4 (.int .i64 v.n))
   have HND:=Lib.hid (show ∀ nd' ts ns,goP headM st=.ok (nd',ts,ns)→nd' = {node 1 [] with s:=t.s,from_:=u.n,to_:=v.n} from fun nd' ts ns e=>by
    obtain ⟨x,t2,n2,e2,rfl⟩:=head_val e
    rw [← HT.out.2] at e2
    have e3:=times_val1 HFR.out e2
    rw [e3,← HT3.out,← HU.out,← HV.out,← HT.out.1])
   have HWA:=Lib.hid hwa
   clear h8 m8 hvv x8 hrt hwa
   go_upto_region 7 with (fail)
   rw [show w8.setCell ⟨w3.heap.size,4,none⟩ (.int .i64 v.n)=wa from HWA.out.symm]
   clear e4 f4
   have hrh:run headM st=run times st1:=by rw [run_head,HT.out.2]
   have hok9:∀ ts ns,run times st1=.ok (ts,ns)→ns.length<5000:=fun ts ns e=>by
    rw [← hrh] at e
    rcases hx:goP headM st with er | ⟨nd',ts',ns'⟩
    ·unfold run at e
     rw [hx] at e
     cases e
    ·rw [run_of hx] at e
     cases e
     obtain ⟨t0,n0,rfl,h0⟩:=goP_ok hx
     have:=still_head _ _ _ _ _ h0
     subst this
     have:=HB.out.1 _ _ rfl
     omega
   have HLY:=Lib.hid (lay_r {node 1 [] with s:=t.s,from_:=u.n,to_:=v.n} (fM t.s u.n v.n).cells.toArray HA.out (Nat.le_trans hbase MA.out.size) (fun ts ns e=>⟨hok9 ts ns e,fM t.s u.n v.n,rfl,⟨nil_row,nil_row,nil_row⟩,rfl⟩))
   have HRH:=Lib.hid hrh
   clear hrh hok9
   go_wp2_with (refine wpList_load_mid (by rfl) 42 (.tmp 3) (by rfl) w3.heap.size 0 (by rfl) (fM t.s u.n v.n).cells _ (box_range BA.out) undNode (by rfl) sizeNode ?_)
   refine HLY.out.mono ?_
   rintro e wl ⟨nvl,il,rfl,hil,hl,sl⟩
   have HQ:=Lib.hid (QR.start (step:=step) HND.out HB.out.1 (fun ts ns e=>hil ts ns (by rw [← HRH.out];exact e)) (by rw [HRH.out];exact hl) ((Mv.stp MA.out nv).trans sl))
   have HSY0:=Lib.hid (show Sure b (stOf (thenA (goP headM st) fun nd=>lay nd)) from by
    rcases HB.out.2 with h | ⟨e,rfl⟩
    ·exact .inl h
    ·exact .inr ⟨e,rfl⟩)
   obtain ⟨y0,hy0⟩:∃ y0:XN,y0=(thenA (goP headM st) fun nd=>lay nd):=⟨_,rfl⟩
   rw [← hy0] at HQ HSY0
   clear hil hl sl hy0
   go_wp2_with fail
   go_loopg [4] (measX y0+1) (fun gk c wr => ∃ f y nv2 i,measX y<gk∧c=.int .i64 i∧QR base r tv T deep nv W step st f y i nv2 wr∧Sure b (stOf y))
   case atStart=>exact ⟨_,_,_,_,by omega,rfl,HQ.out,HSY0.out⟩
   case round =>
    obtain ⟨f,y,nv2,i,hgk,rfl,hj,hsu⟩:=hrel
    have HJ:=Lib.hid hj
    have HSU:=Lib.hid hsu
    have hsee:=sees_r kw_bar hj.rf
    clear hj hsu HQ HSY0
    cases hs:seesR kw_bar (stOf y) with
    | false =>
      have HE:=Lib.hid (HJ.out.stop hs)
      rw [hs,seesR_no hs] at hsee
      have HS:=Lib.hid hsee
      clear hs hsee
      go_wp2_with fail
      refine HS.out.mono ?_
      rintro e wz ⟨rfl,hz,mz⟩
      have HF:=Lib.hid (And.intro hz (HJ.out.sp.trans (mz.stp _)))
      clear hz mz
      go_wp2_with fail
      exact bodyPost_ret (results_tmp rfl _ _ _) rfl (by rw [HE.out];exact ⟨_,_,rfl,fun a ts ns e=>(HJ.out.fl a ts ns e).2,HF.out⟩)
    | true =>
      obtain ⟨tb,ts1,ns,hst,hn,hsw⟩:=seesR_ok hs
      obtain ⟨a,rfl⟩:∃ a,y=.ok (a,tb::ts1,ns):=by
       rcases y with er | ⟨a,ts',ns'⟩
       ·cases hst
       ·cases hst
        exact ⟨a,rfl⟩
      rw [hs,hn] at hsee
      have HS:=Lib.hid hsee
      have HSW:=Lib.hid hsw
      have hbt:b=true:=by
       rcases HSU.out with h | ⟨e,h⟩
       ·exact h
       ·cases h
      have HST:=Lib.hid (HS0.out.1 hbt)
      have HRN:=Lib.hid (room_next HJ.out.bd)
      clear hs hsee hn hst hsw hbt
      go_wp2_with fail
      refine HS.out.mono ?_
      rintro e wz ⟨rfl,hz,mz⟩
      have SZ:=Lib.hid (mz.stp nv2)
      have HZ:=Lib.hid (HST.out base r tv nv2 T (.ok (a,ts1,ns)) i wz hz (Nat.le_trans hbase (Nat.le_trans HJ.out.sp.size mz.size)) HRN.out (fun a' ts' ns' e=>by
       cases e
       exact (HJ.out.fl _ _ _ rfl).2))
      clear hz mz
      go_wp2_with fail
      refine HZ.out.mono ?_
      rintro e wy ⟨nvy,iy,rfl,hiy,hy,sy⟩
      obtain ⟨f2,hq2,hm2⟩:=HJ.out.next HSW.out HS0.out.2.1 HS0.out.2.2 rfl hiy hy (SZ.out.trans sy)
      have HQ2:=Lib.hid hq2
      have hm3:measX (step a ts1 ns)+1<gk:=by omega
      clear hiy hy sy hq2 hm2
      go_wp2_with fail
      go_roundg (measX (step a ts1 ns)+1)
      case measure=>omega
      case rel=>exact ⟨f2,_,nvy,iy,by omega,rfl,HQ2.out,HSU.out.ok _⟩
 | false =>
   rw [hs,seesR_no hs] at hsee
   have HS:=Lib.hid hsee
   have HFR:=Lib.hid hs
   clear hsee hs
   refine HS.out.mono ?_
   rintro e wa ⟨rfl,h5,m5⟩
   have BA:=Lib.hid (m5.blk B4.out hbn)
   have hrt:run times st1=st1:=by rw [run_times,HFR.out,if_neg (by decide)]
   have HA:=Lib.hid (show RF base r tv T deep (run times st1) nv wa by rw [hrt];exact h5)
   have MA:=Lib.hid (Stp.trans M4.out m5)
   have HND:=Lib.hid (show ∀ nd' ts ns,goP headM st=.ok (nd',ts,ns)→nd' = {node 1 [] with s:=t.s,from_:=0,to_:=1099511627775} from fun nd' ts ns e=>by
    obtain ⟨x,t2,n2,e2,rfl⟩:=head_val e
    rw [← HT.out.2] at e2
    have e3:=times_val0 HFR.out e2
    rw [e3,← HT.out.1])
   clear h5 m5 hrt
   have hrh:run headM st=run times st1:=by rw [run_head,HT.out.2]
   have hok9:∀ ts ns,run times st1=.ok (ts,ns)→ns.length<5000:=fun ts ns e=>by
    rw [← hrh] at e
    rcases hx:goP headM st with er | ⟨nd',ts',ns'⟩
    ·unfold run at e
     rw [hx] at e
     cases e
    ·rw [run_of hx] at e
     cases e
     obtain ⟨t0,n0,rfl,h0⟩:=goP_ok hx
     have:=still_head _ _ _ _ _ h0
     subst this
     have:=HB.out.1 _ _ rfl
     omega
   have HLY:=Lib.hid (lay_r {node 1 [] with s:=t.s,from_:=0,to_:=1099511627775} (fM t.s 0 1099511627775).cells.toArray HA.out (Nat.le_trans hbase MA.out.size) (fun ts ns e=>⟨hok9 ts ns e,fM t.s 0 1099511627775,rfl,⟨nil_row,nil_row,nil_row⟩,rfl⟩))
   have HRH:=Lib.hid hrh
   clear hrh hok9
   go_wp2_with (refine wpList_load_mid (by rfl) 42 (.tmp 3) (by rfl) w3.heap.size 0 (by rfl) (fM t.s 0 1099511627775).cells _ (box_range BA.out) undNode (by rfl) sizeNode ?_)
   refine HLY.out.mono ?_
   rintro e wl ⟨nvl,il,rfl,hil,hl,sl⟩
   have HQ:=Lib.hid (QR.start (step:=step) HND.out HB.out.1 (fun ts ns e=>hil ts ns (by rw [← HRH.out];exact e)) (by rw [HRH.out];exact hl) ((Mv.stp MA.out nv).trans sl))
   have HSY0:=Lib.hid (show Sure b (stOf (thenA (goP headM st) fun nd=>lay nd)) from by
    rcases HB.out.2 with h | ⟨e,rfl⟩
    ·exact .inl h
    ·exact .inr ⟨e,rfl⟩)
   obtain ⟨y0,hy0⟩:∃ y0:XN,y0=(thenA (goP headM st) fun nd=>lay nd):=⟨_,rfl⟩
   rw [← hy0] at HQ HSY0
   clear hil hl sl hy0
   go_wp2_with fail
   go_loopg [4] (measX y0+1) (fun gk c wr => ∃ f y nv2 i,measX y<gk∧c=.int .i64 i∧QR base r tv T deep nv W step st f y i nv2 wr∧Sure b (stOf y))
   case atStart=>exact ⟨_,_,_,_,by omega,rfl,HQ.out,HSY0.out⟩
   case round =>
    obtain ⟨f,y,nv2,i,hgk,rfl,hj,hsu⟩:=hrel
    have HJ:=Lib.hid hj
    have HSU:=Lib.hid hsu
    have hsee:=sees_r kw_bar hj.rf
    clear hj hsu HQ HSY0
    cases hs:seesR kw_bar (stOf y) with
    | false =>
      have HE:=Lib.hid (HJ.out.stop hs)
      rw [hs,seesR_no hs] at hsee
      have HS:=Lib.hid hsee
      clear hs hsee
      go_wp2_with fail
      refine HS.out.mono ?_
      rintro e wz ⟨rfl,hz,mz⟩
      have HF:=Lib.hid (And.intro hz (HJ.out.sp.trans (mz.stp _)))
      clear hz mz
      go_wp2_with fail
      exact bodyPost_ret (results_tmp rfl _ _ _) rfl (by rw [HE.out];exact ⟨_,_,rfl,fun a ts ns e=>(HJ.out.fl a ts ns e).2,HF.out⟩)
    | true =>
      obtain ⟨tb,ts1,ns,hst,hn,hsw⟩:=seesR_ok hs
      obtain ⟨a,rfl⟩:∃ a,y=.ok (a,tb::ts1,ns):=by
       rcases y with er | ⟨a,ts',ns'⟩
       ·cases hst
       ·cases hst
        exact ⟨a,rfl⟩
      rw [hs,hn] at hsee
      have HS:=Lib.hid hsee
      have HSW:=Lib.hid hsw
      have hbt:b=true:=by
       rcases HSU.out with h | ⟨e,h⟩
       ·exact h
       ·cases h
      have HST:=Lib.hid (HS0.out.1 hbt)
      have HRN:=Lib.hid (room_next HJ.out.bd)
      clear hs hsee hn hst hsw hbt
      go_wp2_with fail
      refine HS.out.mono ?_
      rintro e wz ⟨rfl,hz,mz⟩
      have SZ:=Lib.hid (mz.stp nv2)
      have HZ:=Lib.hid (HST.out base r tv nv2 T (.ok (a,ts1,ns)) i wz hz (Nat.le_trans hbase (Nat.le_trans HJ.out.sp.size mz.size)) HRN.out (fun a' ts' ns' e=>by
       cases e
       exact (HJ.out.fl _ _ _ rfl).2))
      clear hz mz
      go_wp2_with fail
      refine HZ.out.mono ?_
      rintro e wy ⟨nvy,iy,rfl,hiy,hy,sy⟩
      obtain ⟨f2,hq2,hm2⟩:=HJ.out.next HSW.out HS0.out.2.1 HS0.out.2.2 rfl hiy hy (SZ.out.trans sy)
      have HQ2:=Lib.hid hq2
      have hm3:measX (step a ts1 ns)+1<gk:=by omega
      clear hiy hy sy hq2 hm2
      go_wp2_with fail
      go_roundg (measX (step a ts1 ns)+1)
      case measure=>omega
      case rel=>exact ⟨f2,_,nvy,iy,by omega,rfl,HQ2.out,HSU.out.ok _⟩
end
theorem rquery_bad (step:Nat→M Nat) (deep:Nat) (hsh:∀ a,Short (step a)) (hco:∀ a,Cost 0 0 (step a)):ReadsR false 43 (queryOf step) deep:=query_r (fun h=>by cases h) hsh hco
theorem step_short {inner cond:M Nat} (hi:∀ {e:Prop},Rel Quits e inner inner) (hc:∀ {e:Prop},Rel Quits e cond cond) (a:Nat):Short (stepOf inner cond a):=(rel_step (e:=True) hi hc (rows:=a) (rows':=a) (fun _=>rfl)).shorter
abbrev stepD (d:Nat):Nat→M Nat:=stepOf (pInner d) (pCond d)
theorem short_stepD (d a:Nat):Short (stepD d a):=step_short (rel_inner d 0) (rel_pCond d 0) a
theorem cost_stepD (d a:Nat):Cost 0 0 (stepD d a):=cost_step (cost_inner d) (cost_pCond d) a
theorem cost_pq (d:Nat):Cost 0 0 (pQuery d):=cost_queryOf (cost_stepD d)
theorem rquery_all:∀ (d deep:Nat),deep+d=16→ReadsR true 43 (pQuery d) deep
 | 0,deep,h=>by
   have hb:decide (deep<16)=false:=decide_eq_false (by omega)
   refine query_r (step:=stepD 0) (fun _ base r tv nv T y ri W h1 h2 h3 h4=>?_) (short_stepD 0) (cost_stepD 0)
   refine step_r (pq:=pQuery 0) (by omega) (rcond_all 0 deep h) (nice_cond (nice_not 0)) (by rw [hb];exact rquery_bad _ _ (short_stepD 0) (cost_stepD 0)) (cost_pq 0) (fun ts ns=>?_) h1 h2 h3 h4
   rw [show deeperR deep (.ok (ts,ns))=.error (ts.length+1,true) from if_neg (by omega)]
   rfl
 | d+1,deep,h=>by
   have hb:decide (deep<16)=true:=decide_eq_true (by omega)
   refine query_r (step:=stepD (d+1)) (fun _ base r tv nv T y ri W h1 h2 h3 h4=>?_) (short_stepD _) (cost_stepD _)
   refine step_r (pq:=pQuery d) (by omega) (rcond_all (d+1) deep h) (nice_cond (nice_not _)) (by rw [hb];exact rquery_all d (deep+1) (by omega)) (cost_pq d) (fun ts ns=>?_) h1 h2 h3 h4
   rw [show deeperR deep (.ok (ts,ns))=.ok (ts,ns) from if_pos (by omega)]
   exact thenX_bind _ _ _ _
end Go.Proofs.YtnaehhpikhlppaaGreatDoor
