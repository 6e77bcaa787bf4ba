/- Several texts of the proof, joined. -/
import Derived.Test.YtnaehhpikhlppaaGreatDoorE13
import Derived.Test.YtnaehhpikhlppaaGreatDoorE18
import Derived.Defers
import Derived.Recover
set_option maxHeartbeats 4000000
set_option maxRecDepth 100000
set_option linter.unusedVariables false
set_option linter.unusedSimpArgs false
namespace Go.Proofs.YtnaehhpikhlppaaGreatDoor.ParS
open LexS
section
variable {S:List Tk→Prop} {e:Prop} {α β:Type}
theorem choice_lt:∀ (ws:List Bytes) (i:Nat) (ts:List Tk),0<i→(choice ws i ts).1<i+ws.length
 | [],i,ts,h=>by
   unfold choice
   simpa using h
 | w::l,i,ts,h=>by
   unfold choice
   split
   ·simp
   ·have:=choice_lt l (i+1) ts (by omega)
    simp only [List.length_cons]
    omega
def gnamesM:M (List Bytes):=fun ts2 ns2=>match sees kw_colon ts2 with
 | some _=>.ok ([],ts2,ns2)
 | none=>names ts2 ns2
theorem names_nil (ns:List Nd) (r:List Bytes×List Tk×List Nd):names [] ns≠.ok r:=fun h=>by cases h
theorem rel_gnames:Rel Quits e gnamesM gnamesM:=by
 intro ts ns a ts2 ns2 h
 unfold gnamesM at h
 split at h
 ·rename_i ts1 hs
  cases h
  refine ⟨Nat.le_refl _,fun us hu ns'=>⟨[],ns',?_,fun _ y=>⟨rfl,y⟩⟩⟩
  unfold gnamesM
  rw [(sees_more (us:=us) hs).1]
 ·rename_i hs
  obtain ⟨l1,k1⟩:=rel_names (e:=e) _ _ _ _ _ h
  refine ⟨l1,fun us hu ns'=>?_⟩
  unfold gnamesM
  rw [sees_none hs (fun x=>by rw [x] at h;exact absurd h (names_nil _ _))]
  exact k1 us hu ns'
def stepF (inner cond:M Nat) (rows:Nat):Nat→M Nat
 | 0=>M.bind cond (fun c=>lay (node 2 [rows,c]))
 | 1=>M.bind names (fun l=>lay {node 3 [rows] with names:=l})
 | 2=>M.bind (take 2) (fun t=>lay {node 4 [rows] with n:=t.n})
 | 3=>M.bind gnamesM (fun l=>M.bind (wants kw_colon) fun _=>M.bind aggs fun a=>lay {node 5 [rows] with names:=l,aggs:=a})
 | 4=>M.bind (take 2) (fun t=>M.bind (wants kw_by) fun _=>M.bind (take 1) fun u=>lay {node 6 [rows] with n:=t.n,s:=u.s})
 | 5=>M.bind (wants kw_open) (fun _=>M.bind inner fun i=>lay (node 7 [rows,i]))
 | 6=>M.bind (wants kw_open) (fun _=>M.bind inner fun i=>lay (node 8 [rows,i]))
 | _=>M.fail
theorem step_eq (inner cond:M Nat) (rows:Nat):stepOf inner cond rows=fun ts ns=>match choice kw_steps 1 ts with
 | (0,_)=>M.fail ts ns
 | (k+1,ts1)=>stepF inner cond rows k ts1 ns:=by
 funext ts ns
 have hl:=choice_lt kw_steps 1 ts (by decide)
 unfold stepOf
 rcases hc:choice kw_steps 1 ts with ⟨k,ts1⟩
 rw [hc] at hl
 match k,hl with
 | 0,_=>rfl
 | 1,_=>rfl
 | 2,_=>rfl
 | 3,_=>rfl
 | 4,_=>rfl
 | 5,_=>rfl
 | 6,_=>rfl
 | 7,_=>rfl
 | k+8,hl =>
   exfalso
   simp [kw_steps] at hl
   omega
theorem rel_aggs:Rel Quits e aggs aggs:=rel_many rel_agg
theorem rel_step {inner inner' cond cond':M Nat} (hi:∀ {e:Prop},Rel Quits e inner inner') (hc:∀ {e:Prop},Rel Quits e cond cond') {rows rows':Nat} (hr:e→rows'=rows) :
 Rel Quits e (stepOf inner cond rows) (stepOf inner' cond' rows'):=by
 rw [step_eq,step_eq]
 refine rel_choice fail_nil rel_fail fun k=>?_
 match k with
 | 0=>exact rel_bind hc fun a a'=>rel_lay fun x=>by rw [x.2,hr x.1]
 | 1=>exact rel_bind rel_names fun a a'=>rel_lay fun x=>by rw [x.2,hr x.1]
 | 2=>exact rel_bind (rel_take 2) fun a a'=>rel_lay fun x=>by rw [x.2,hr x.1]
 | 3=>exact rel_bind rel_gnames fun a a'=>rel_bind (rel_wants _) fun _ _=>rel_bind rel_aggs fun b b'=>rel_lay fun x=>by rw [x.2,x.1.1.2,hr x.1.1.1]
 | 4=>exact rel_bind (rel_take 2) fun a a'=>rel_bind (rel_wants _) fun _ _=>rel_bind (rel_take 1) fun b b'=>rel_lay fun x=>by rw [x.2,x.1.1.2,hr x.1.1.1]
 | 5=>exact rel_bind (rel_wants _) fun _ _=>rel_bind hi fun b b'=>rel_lay fun x=>by rw [x.2,hr x.1.1]
 | 6=>exact rel_bind (rel_wants _) fun _ _=>rel_bind hi fun b b'=>rel_lay fun x=>by rw [x.2,hr x.1.1]
 | k+7=>exact rel_fail
theorem stepsGo_eq (step:Nat→M Nat) (k a:Nat):stepsGo step (k+1) a=fun ts ns=>match sees kw_bar ts with | some ts1=>M.bind (step a) (stepsGo step k) ts1 ns | none=>M.pure a ts ns:=by
 funext ts ns
 rw [stepsGo]
 dsimp only
 rcases sees kw_bar ts with _ | ts1<;>rfl
theorem rel_stepsGo {step step':Nat→M Nat} (hs:∀ {e:Prop} (a a':Nat),(e→a'=a)→Rel Quits e (step a) (step' a')):∀ (k a a':Nat) {e:Prop},(e→a'=a)→Rel QuitsQ e (stepsGo step k a) (stepsGo step' k a')
 | 0,a,a',e,h=>rel_pure h
 | k+1,a,a',e,h=>by
   rw [stepsGo_eq,stepsGo_eq]
   exact rel_sees (S:=QuitsQ) (w:=kw_bar) (p:=M.bind (step a) (stepsGo step k)) (p':=M.bind (step' a') (stepsGo step' k)) (q:=M.pure a) (q':=M.pure a') (fun us hu=>hu.2)
    (rel_bind ((hs a a' h).at fun us hu=>hu.1) fun b b'=>rel_stepsGo hs k b b' fun x=>x.2) (rel_pure h)
theorem rel_times:Rel Quits e times times :=
 rel_sees (S:=Quits) (w:=kw_from) (p:=M.bind (take 2) (fun f=>M.bind (wants kw_to) fun _=>M.bind (take 2) fun g=>M.pure (f.n,g.n)))
  (p':=M.bind (take 2) (fun f=>M.bind (wants kw_to) fun _=>M.bind (take 2) fun g=>M.pure (f.n,g.n))) (q:=M.pure (0,1099511627775)) (q':=M.pure (0,1099511627775)) (fun us hu=>hu.2.2.2)
  (rel_bind (rel_take 2) fun a a'=>rel_bind (rel_wants _) fun _ _=>rel_bind (rel_take 2) fun b b'=>rel_pure fun x=>by rw [x.2,x.1.1.2]) (rel_pure fun _=>rfl)
theorem rel_queryOf {step step':Nat→M Nat} (hs:∀ {e:Prop} (a a':Nat),(e→a'=a)→Rel Quits e (step a) (step' a')):Rel QuitsQ e (queryOf step) (queryOf step') :=
 rel_bind (rel_wants _) fun _ _=>rel_bind (rel_take 1) fun t t'=>rel_bind (rel_times.at fun us hu=>hu.1) fun x x'=>rel_bind (rel_lay fun y=>by rw [y.2,y.1.2]) fun a a'=>rel_stepsGo hs fuel a a' fun y=>y.2
theorem rel_inner:∀ (d c:Nat) {e:Prop},Rel Quits e (pInner d) (pInner (d+c))
 | 0,c,e=>rel_deep
 | d+1,c,e=>by
   rw [Nat.add_right_comm]
   exact rel_shut (rel_queryOf fun a a' h=>rel_step (rel_inner d c) (rel_pCond d c) h)
def Short {α:Type} (p:M α):Prop := ∀ {ts ts1:List Tk} {ns ns1:List Nd} {a:α},p ts ns=.ok (a,ts1,ns1)→ts1.length≤ts.length
theorem Rel.shorter {p q:M α} (h:Rel S True p q):Short p:=fun hp=>(h _ _ _ _ _ hp).1
end
end Go.Proofs.YtnaehhpikhlppaaGreatDoor.ParS

namespace Go.Proofs.YtnaehhpikhlppaaGreatDoor
open Go.RowKit LexS ParS BigFrame
attribute [local go_sem] field_tok1 field_tok2
attribute [local go_sem] World.cell?_alloc_some cell_drewN_new free_drewN_new cell_drew_new free_drew_new
section
variable {step:Nat→M Nat} {a b k:Nat} {ts ts1 ts2 ts3 ts4 ts5 ts6:List Tk} {ns ns2:List Nd} {er:Er} {t f g:Tk} {x:Int×Int}
theorem q_err1 (h:sees kw_fetch ts=none):queryOf step ts ns=.error (ts.length,false):=bind_err (wants_bad h)
theorem q_err2 (h:sees kw_fetch ts=some ts1) (hk:∀ t ts2,ts1=t::ts2→t.kind≠1):queryOf step ts ns=.error (ts1.length,false) :=
 (bind_eq (wants_ok h)).trans (bind_err (take_bad hk))
theorem q_err3 (h:sees kw_fetch ts=some ts1) (ht:ts1=t::ts2) (hk:t.kind=1) (hx:times ts2 ns=.error er):queryOf step ts ns=.error er :=
 (bind_eq (wants_ok h)).trans ((bind_eq (by rw [ht];exact take_ok hk)).trans (bind_err hx))
theorem q_ok (h:sees kw_fetch ts=some ts1) (ht:ts1=t::ts2) (hk:t.kind=1) (hx:times ts2 ns=.ok (x,ts3,ns)) :
 queryOf step ts ns=stepsGo step fuel ns.length ts3 (ns++[{node 1 [] with s:=t.s,from_:=x.1,to_:=x.2}]) :=
 (bind_eq (wants_ok h)).trans ((bind_eq (by rw [ht];exact take_ok hk)).trans ((bind_eq hx).trans rfl))
theorem times_none (h:sees kw_from ts2=none):times ts2 ns=.ok ((0,1099511627775),ts2,ns):=by
 unfold times
 rw [h]
theorem times_some (h:sees kw_from ts2=some ts3):times ts2 ns=M.bind (take 2) (fun f=>M.bind (wants kw_to) fun _=>M.bind (take 2) fun g=>M.pure (f.n,g.n)) ts3 ns:=by
 unfold times
 rw [h]
theorem times_err1 (h:sees kw_from ts2=some ts3) (hk:∀ t ts2,ts3=t::ts2→t.kind≠2):times ts2 ns=.error (ts3.length,false) :=
 (times_some h).trans (bind_err (take_bad hk))
theorem times_err2 (h:sees kw_from ts2=some ts3) (ht:ts3=f::ts4) (hk:f.kind=2) (h2:sees kw_to ts4=none):times ts2 ns=.error (ts4.length,false) :=
 (times_some h).trans ((bind_eq (by rw [ht];exact take_ok hk)).trans (bind_err (wants_bad h2)))
theorem times_err3 (h:sees kw_from ts2=some ts3) (ht:ts3=f::ts4) (hk:f.kind=2) (h2:sees kw_to ts4=some ts5) (hk2:∀ t ts2,ts5=t::ts2→t.kind≠2):times ts2 ns=.error (ts5.length,false) :=
 (times_some h).trans ((bind_eq (by rw [ht];exact take_ok hk)).trans ((bind_eq (wants_ok h2)).trans (bind_err (take_bad hk2))))
theorem times_ok (h:sees kw_from ts2=some ts3) (ht:ts3=f::ts4) (hk:f.kind=2) (h2:sees kw_to ts4=some ts5) (hg:ts5=g::ts6) (hk2:g.kind=2):times ts2 ns=.ok ((f.n,g.n),ts6,ns) :=
 (times_some h).trans ((bind_eq (by rw [ht];exact take_ok hk)).trans ((bind_eq (wants_ok h2)).trans ((bind_eq (by rw [hg];exact take_ok hk2)).trans rfl)))
theorem steps_none (h:sees kw_bar ts=none):stepsGo step (k+1) a ts ns=.ok (a,ts,ns):=by
 rw [stepsGo_eq]
 dsimp only
 rw [h]
 rfl
theorem steps_err (h:sees kw_bar ts=some ts1) (h2:step a ts1 ns=.error er):stepsGo step (k+1) a ts ns=.error er:=by
 rw [stepsGo_eq]
 dsimp only
 rw [h]
 exact bind_err h2
theorem steps_ok (h:sees kw_bar ts=some ts1) (h2:step a ts1 ns=.ok (b,ts2,ns2)):stepsGo step (k+1) a ts ns=stepsGo step k b ts2 ns2:=by
 rw [stepsGo_eq]
 dsimp only
 rw [h]
 exact bind_eq h2
end
section
variable {base r deep:Nat} {tv nv nv':Value} {T:List Tok} {ts ts1:List Tk} {ns ns1:List Nd} {W W' Wx:World} {m:NodeM} {b:Nat}
theorem sees_all {w:Bytes} (h:RS base r tv T deep ts ns nv W) :
 Calls Tryz.prog 104 #[RP r,.string (BA w)] W fun e W'=>e=.returned (.bool (sees w ts).isSome)∧RS base r tv T deep ((sees w ts).getD ts) ns nv W'∧Mv r W W':=by
 rcases hs:sees w ts with _ | ts1
 ·exact sees_no h hs
 ·exact sees_yes h hs
abbrev fM (s:Bytes) (f g:Int):NodeM:=⟨{node 1 [] with s:=s,from_:=f,to_:=g},.slice none 0 0,.slice none 0 0,.slice none 0 0⟩
structure QK (base r:Nat) (tv:Value) (T:List Tok) (deep:Nat) (W:World) (b:Nat) (ns:List Nd) (nv:Value) (ts:List Tk) (m:NodeM) (Wx:World):Prop where
 rs:RS base r tv T deep ts ns nv Wx
 mv:Mv r W Wx
 xb:Blk Wx b 42 m.cells.toArray
 nn:nv.ownBlock≠some b
 hr:b≠r
 hb:W.heap.size≤b
theorem QK.move (h:QK base r tv T deep W b ns nv ts m Wx) (h1:RS base r tv T deep ts1 ns nv W') (s:Mv r Wx W'):QK base r tv T deep W b ns nv ts1 m W' :=
 ⟨h1,Stp.trans h.mv s,s.blk h.xb h.hr,h.nn,h.hr,h.hb⟩
theorem QK.put {m2:NodeM} (h:QK base r tv T deep W b ns nv ts m Wx) (i:Nat) (u:Value) (hm:m.cells.set i u=m2.cells):QK base r tv T deep W b ns nv ts m2 (Wx.setCell ⟨b,i,none⟩ u):=by
 have hx:=box_put h.xb i u
 rw [hm] at hx
 exact ⟨h.rs.far h.xb (by decide) h.nn h.hr i u,Mv.far h.mv h.hb i u,hx,h.nn,h.hr,h.hb⟩
structure TK (base r:Nat) (tv:Value) (T:List Tok) (deep:Nat) (nv:Value) (W:World) (step:Nat→M Nat) (ts:List Tk) (ns:List Nd) (f a:Nat) (ts2:List Tk) (ns2:List Nd) (nv2:Value) (W2:World):Prop where
 eq:queryOf step ts ns=stepsGo step f a ts2 ns2
 fl:ts2.length<f
 rs:RS base r tv T deep ts2 ns2 nv2 W2
 st:Stp r nv W nv2 W2
 bd:ns2.length+ts2.length≤5000
theorem query_any {inner cond:M Nat} (hcond:Reads 144 cond deep) (ncond:Cost 0 0 cond) (hinner:Reads 147 (brk inner) deep) (ninner:Cost 0 0 (brk inner))
 (hshort:∀ a,Short (stepOf inner cond a)) (hcost:∀ a,Cost 0 0 (stepOf inner cond a)):Reads 53 (queryOf (stepOf inner cond)) deep:=by
 intro base r tv nv T ts ns W h hbase hB
 have hr:=h.box.lt
 have H:=Lib.hid h
 have hsh:=h.short
 have hfew:=h.few
 have HC:=Lib.hid (And.intro (And.intro hcond ncond) (And.intro hinner ninner))
 have HS0:=Lib.hid (And.intro (fun a=>@hshort a) hcost)
 clear hcond ncond hinner ninner hshort hcost h
 rcases hf:sees kw_fetch ts with _ | ts1
 ·have HE:=Lib.hid (q_err1 (step:=stepOf inner cond) (ns:=ns) hf)
  have HW:=Lib.hid (wants_no H.out hf)
  clear hf
  go_enter Tryz.func53,Tryz.ntmps53
  go_wp2_with fail
  refine HW.out.mono ?_
  rintro e w1 ⟨rfl,m1⟩
  have M1:=Lib.hid (Mv.stp m1 nv)
  clear m1
  unfold Bad
  go_wp2_with fail
  exact ⟨rfl,by rw [HE.out];exact ⟨rfl,nv,M1.out⟩⟩
 have HF:=Lib.hid hf
 have hl1:=sees_len hf
 have HW:=Lib.hid (wants_yes H.out hf)
 clear hf
 go_enter Tryz.func53,Tryz.ntmps53
 go_wp2_with fail
 refine HW.out.mono ?_
 rintro e w1 ⟨rfl,h1,m1⟩
 have M1:=Lib.hid m1
 have H1:=Lib.hid h1
 clear h1 m1
 rcases take_cases 1 ts1 with ⟨t,ts2,ht,hk⟩ | hk
 case inr =>
  have HE:=Lib.hid (q_err2 (step:=stepOf inner cond) (ns:=ns) HF.out hk)
  have HN:=Lib.hid (word_no H1.out hk)
  clear hk
  go_wp2_with fail
  refine HN.out.mono ?_
  rintro e w2 ⟨rfl,m2⟩
  have M2:=Lib.hid (Mv.stp (Stp.trans M1.out m2) nv)
  clear m2
  unfold Bad
  go_wp2_with fail
  exact ⟨rfl,by rw [HE.out];exact ⟨rfl,nv,M2.out⟩⟩
 have HN:=Lib.hid (word_yes H1.out ht hk)
 have HT:=Lib.hid (And.intro ht hk)
 have hl2:ts2.length+1=ts1.length:=by rw [ht];rfl
 clear ht hk
 go_wp2_with fail
 refine HN.out.mono ?_
 rintro e w2 ⟨rfl,h2,m2⟩
 have M2:=Lib.hid (Stp.trans M1.out m2)
 have H2:=Lib.hid h2
 have hbn:w2.heap.size≠r:=(Nat.ne_of_lt h2.box.lt).symm
 have hnn:=Lib.hid (show nv.ownBlock≠some w2.heap.size from fun e=>by
  obtain ⟨_,cur,hc⟩:=h2.nodes.block e
  exact absurd (Array.getElem?_eq_some_iff.1 hc).1 (Nat.lt_irrefl _))
 have hth:=nd_there w2
 have hone:(fM t.s 0 1099511627775).cells.toArray.all (·.oneCell')=true:=one_nd 1 t.s 0 0 1099511627775 noVal rfl rfl rfl [] [] []
 clear h2 m2
 go_wp2_with (refine wpList_store_mid (by rfl) 42 (.tmp 3) (.tmp 9) (by rfl) w2.heap.size 0 (fM t.s 0 1099511627775).cells.toArray (by rfl) (by rfl) hth sizeNode hone ?_
              generalize hw4:World.setCells _ _ _ _=w4
              have F4:=Lib.hid (nd_stored (m:=fM t.s 0 1099511627775) hw4)
              clear hw4)
 have K4:=Lib.hid (show QK base r tv T deep W w2.heap.size ns nv ts2 (fM t.s 0 1099511627775) w4 from ⟨H2.out.kept F4.out.1,Stp.trans M2.out (Stp.of F4.out.1),F4.out.2,hnn.out,hbn,M2.out.size⟩)
 have HSA:=Lib.hid (sees_all (w:=kw_from) K4.out.rs)
 clear hth hone
 refine HSA.out.mono ?_
 rintro e w5 ⟨rfl,h5,m5⟩
 have K5:=Lib.hid (K4.out.move h5 m5)
 clear h5 m5
 go_upto_if 11 with fail
 go_cut [] (fun wx => ∃ (f g:Int) (ts3:List Tk),times ts2 ns=.ok ((f,g),ts3,ns)∧QK base r tv T deep W w2.heap.size ns nv ts3 (fM t.s f g) wx)
 case first =>
  rcases hq:sees kw_from ts2 with _ | ts3
  ·have HE:=Lib.hid (times_none (ns:=ns) hq)
   have K6:=Lib.hid (show QK base r tv T deep W w2.heap.size ns nv ts2 (fM t.s 0 1099511627775) w5 from by have:=K5.out;rwa [hq] at this)
   clear hq
   dsimp only [Option.isSome]
   go_wp2_with fail
   go_meet
   exact ⟨_,_,_,HE.out,K6.out⟩
  ·have K6:=Lib.hid (show QK base r tv T deep W w2.heap.size ns nv ts3 (fM t.s 0 1099511627775) w5 from by have:=K5.out;rwa [hq] at this)
   have HQ:=Lib.hid hq
   clear hq
   dsimp only [Option.isSome]
   rcases take_cases 2 ts3 with ⟨f,ts4,hf,hk⟩ | hk
   case inr =>
    have HE:=Lib.hid (q_err3 (step:=stepOf inner cond) HF.out HT.out.1 HT.out.2 (times_err1 (ns:=ns) HQ.out hk))
    have HN:=Lib.hid (number_no K6.out.rs hk)
    clear hk
    go_wp2_with fail
    refine HN.out.mono ?_
    rintro e w7 ⟨rfl,m7⟩
    have M7:=Lib.hid (Mv.stp (Stp.trans K6.out.mv m7) nv)
    clear m7
    unfold Bad
    go_wp2_with fail
    exact ⟨rfl,by rw [HE.out];exact ⟨rfl,nv,M7.out⟩⟩
   have HN:=Lib.hid (number_yes K6.out.rs hf hk)
   have HFN:=Lib.hid (And.intro hf hk)
   clear hf hk
   go_wp2_with fail
   refine HN.out.mono ?_
   rintro e w7 ⟨rfl,h7,m7⟩
   have k7:=K6.out.move h7 m7
   have e3:w7.cell? ⟨w2.heap.size,3,none⟩=some (.int .i64 0):=k7.xb.cell 3
   have f3:=k7.xb.free 3
   have K8:=Lib.hid (k7.put (m2:=fM t.s f.n 1099511627775) 3 (.int .i64 f.n) rfl)
   clear h7 m7 k7
   rcases hs:sees kw_to ts4 with _ | ts5
   ·have HE:=Lib.hid (q_err3 (step:=stepOf inner cond) HF.out HT.out.1 HT.out.2 (times_err2 (ns:=ns) HQ.out HFN.out.1 HFN.out.2 hs))
    have HS:=Lib.hid (wants_no K8.out.rs hs)
    clear hs
    go_wp2_with fail
    refine HS.out.mono ?_
    rintro e w9 ⟨rfl,m9⟩
    have M9:=Lib.hid (Mv.stp (Stp.trans K8.out.mv m9) nv)
    clear m9
    unfold Bad
    go_wp2_with fail
    exact ⟨rfl,by rw [HE.out];exact ⟨rfl,nv,M9.out⟩⟩
   ·have HS:=Lib.hid (wants_yes K8.out.rs hs)
    have HSE:=Lib.hid hs
    clear hs
    go_wp2_with fail
    refine HS.out.mono ?_
    rintro e w9 ⟨rfl,h9,m9⟩
    have K9:=Lib.hid (K8.out.move h9 m9)
    clear h9 m9
    rcases take_cases 2 ts5 with ⟨g,ts6,hg,hk⟩ | hk
    case inr =>
     have HE:=Lib.hid (q_err3 (step:=stepOf inner cond) HF.out HT.out.1 HT.out.2 (times_err3 (ns:=ns) HQ.out HFN.out.1 HFN.out.2 HSE.out hk))
     have HN:=Lib.hid (number_no K9.out.rs hk)
     clear hk
     go_wp2_with fail
     refine HN.out.mono ?_
     rintro e wa ⟨rfl,ma⟩
     have MA:=Lib.hid (Mv.stp (Stp.trans K9.out.mv ma) nv)
     clear ma
     unfold Bad
     go_wp2_with fail
     exact ⟨rfl,by rw [HE.out];exact ⟨rfl,nv,MA.out⟩⟩
    have HN2:=Lib.hid (number_yes K9.out.rs hg hk)
    have HE:=Lib.hid (times_ok (ns:=ns) HQ.out HFN.out.1 HFN.out.2 HSE.out hg hk)
    clear hg hk
    go_wp2_with fail
    refine HN2.out.mono ?_
    rintro e wa ⟨rfl,ha,ma⟩
    have ka:=K9.out.move ha ma
    have e4:wa.cell? ⟨w2.heap.size,4,none⟩=some (.int .i64 1099511627775):=ka.xb.cell 4
    have f4:=ka.xb.free 4
    have KB:=Lib.hid (ka.put (m2:=fM t.s f.n g.n) 4 (.int .i64 g.n) rfl)
    clear ha ma ka
    go_wp2_with fail
    go_meet
    exact ⟨_,_,_,HE.out,KB.out⟩
 case rest =>
 obtain ⟨f,g,ts3,hE,hk⟩:=hcut
 have hc3:=cost_times _ _ _ _ _ hE
 have HQ:=Lib.hid (q_ok (step:=stepOf inner cond) HF.out HT.out.1 HT.out.2 hE)
 have K6:=Lib.hid hk
 have HL:=Lib.hid (lay_any' (fM t.s f g) hk.rs ⟨nil_row,nil_row,nil_row⟩ (by omega) (Nat.le_trans hbase hk.mv.size))
 clear hE hk
 go_wp2_with (refine wpList_load_mid (by rfl) 42 (.tmp 3) (by rfl) w2.heap.size 0 (by rfl) (fM t.s f g).cells _ (box_range K6.out.xb) undNode (by rfl) sizeNode ?_)
 refine HL.out.mono ?_
 rintro e w7 ⟨nv7,rfl,h7,s7⟩
 have HJ:=Lib.hid (show TK base r tv T deep nv W (stepOf inner cond) ts ns fuel ns.length ts3 (ns++[(fM t.s f g).node]) nv7 w7 from
  ⟨HQ.out,by have:=h7.short;have:=h7.few;unfold fuel;omega,h7,(Mv.stp K6.out.mv nv).trans s7,by simp only [List.length_append,List.length_singleton];omega⟩)
 clear h7 s7
 go_wp2_with fail
 go_loopg [4] (ts3.length+2) (fun gk c wr => ∃ f a2 ts2 ns2 nv2,ts2.length<gk∧c=.int .i64 ((a2:Nat):Int)∧TK base r tv T deep nv W (stepOf inner cond) ts ns f a2 ts2 ns2 nv2 wr)
 case atStart=>exact ⟨_,_,_,_,_,by omega,rfl,HJ.out⟩
 case round =>
  obtain ⟨f,a2,ts4,ns4,nv4,hgk,rfl,hj⟩:=hrel
  have hbd:=hj.bd
  have hfl:=hj.fl
  obtain ⟨f1,rfl⟩:∃ f1,f=f1+1:=⟨f-1,by omega⟩
  have HK:=Lib.hid hj
  clear hj HJ
  rcases hs:sees kw_bar ts4 with _ | ts5
  ·have HE:=Lib.hid (HK.out.eq.trans (steps_none hs))
   have HS:=Lib.hid (sees_no HK.out.rs hs)
   clear hs
   go_wp2_with fail
   refine HS.out.mono ?_
   rintro e w8 ⟨rfl,h8,m8⟩
   have HG:=Lib.hid (And.intro h8 (HK.out.st.trans (m8.stp _)))
   clear h8 m8
   go_wp2_with fail
   exact bodyPost_ret (results_tmp rfl _ _ _) rfl (by rw [HE.out];exact ⟨_,rfl,HG.out⟩)
  ·have hl5:=sees_len hs
   have HS:=Lib.hid (sees_yes HK.out.rs hs)
   have HSE:=Lib.hid hs
   clear hs
   go_wp2_with fail
   refine HS.out.mono ?_
   rintro e w8 ⟨rfl,h8,m8⟩
   have S8:=Lib.hid (HK.out.st.trans (m8.stp _))
   have H8:=Lib.hid h8
   have hb8:base≤w8.heap.size:=Nat.le_trans hbase S8.out.size
   have HSTEP:=Lib.hid (step_any (rows:=a2) HC.out.1.1 HC.out.1.2 HC.out.2.1 HC.out.2.2 h8 hb8 (by omega))
   clear h8 m8
   go_wp2_with fail
   refine HSTEP.out.mono ?_
   rintro e w9 hp
   rcases hi:stepOf inner cond a2 ts5 ns4 with ⟨k,long⟩ | ⟨b,ts6,ns6⟩
   ·rw [hi] at hp
    obtain ⟨rfl,nv9,s9⟩:=hp
    have HE:=Lib.hid (HK.out.eq.trans (steps_err HSE.out hi))
    have S9:=Lib.hid (S8.out.trans s9)
    clear hi s9
    unfold Bad
    go_wp2_with fail
    exact ⟨rfl,by rw [HE.out];exact ⟨rfl,_,S9.out⟩⟩
   ·rw [hi] at hp
    obtain ⟨nv9,rfl,h9,s9⟩:=hp
    have hc9:=HS0.out.2 _ _ _ _ _ _ hi
    have hs9:=HS0.out.1 _ hi
    have HN:=Lib.hid (show TK base r tv T deep nv W (stepOf inner cond) ts ns f1 b ts6 ns6 nv9 w9 from ⟨HK.out.eq.trans (steps_ok HSE.out hi),by omega,h9,S8.out.trans s9,by omega⟩)
    clear hi h9 s9
    go_wp2_with fail
    go_roundg (ts4.length)
    case measure=>omega
    case rel=>exact ⟨f1,_,ts6,_,_,by omega,rfl,HN.out⟩
end
end Go.Proofs.YtnaehhpikhlppaaGreatDoor

namespace Go.Proofs.YtnaehhpikhlppaaGreatDoor
open Go.RowKit LexS ParS BigFrame
theorem cost_brk (d:Nat):Cost 0 0 (brk (pInner d)):=(cost_bind (cost_wants kw_open) fun _=>cost_inner d).le (by omega)
theorem short_step (d a:Nat):Short (stepOf (pInner d) (pCond d) a):=(rel_step (e:=True) (rows:=a) (rows':=a) (rel_inner d 0) (rel_pCond d 0) (fun _=>rfl)).shorter
theorem query_of {d deep:Nat} (hd:deep+d=16) (hb:Reads 147 (brk (pInner d)) deep):Reads 53 (pQuery d) deep :=
 query_any (pCond_reads d deep hd) (cost_pCond d) hb (cost_brk d) (short_step d) (cost_step (cost_inner d) (cost_pCond d))
theorem bracketed_reads:∀ (d deep:Nat),deep+d=16→Reads 147 (brk (pInner d)) deep
 | 0,deep,h=>bracketed_any (withC_deep (by omega))
 | d+1,deep,h=>bracketed_any (withC_query (by omega) (query_c (query_of (by omega) (bracketed_reads d (deep+1) (by omega)))))
theorem pQuery_reads (d deep:Nat) (h:deep+d=16):Reads 53 (pQuery d) deep:=query_of h (bracketed_reads d deep h)
end Go.Proofs.YtnaehhpikhlppaaGreatDoor

namespace Go.Proofs.YtnaehhpikhlppaaGreatDoor
open Go.RowKit LexS ParS BigFrame
attribute [local go_sem] World.cell?_alloc_some cell_drewN_new free_drewN_new cell_drew_new free_drew_new
theorem wrong_is (x c:Int) (W:World):(Instr.typeAssert (.iface 145 (.agg #[.int .i64 x,.int .i64 c])) 20 145 true).run Tryz.prog W=.ok (.tuple #[.agg #[.int .i64 x,.int .i64 c],.bool true]) W:=by kernel_rfl
attribute [local go_sem] wrong_is
section
variable {W:World} {p0 p1 p2 B:Nat} {x c:Int}
theorem caught (h0:Blk W p0 25 #[.slice none 0 0]) (h1:Blk W p1 3 #[.int .i64 0]) (h2:Blk W p2 26 #[.int .i64 0]) (n01:p0≠p1) (n02:p0≠p2) (n12:p1≠p2) (b0:B≤p0) (b1:B≤p1) (b2:B≤p2) :
 CallsD Tryz.prog 100 #[.pointer (some ⟨p0,0,none⟩),.pointer (some ⟨p1,0,none⟩),.pointer (some ⟨p2,0,none⟩)] (.panicking [{v:=.iface 145 (.agg #[.int .i64 x,.int .i64 c]),recovered:=false}]) W fun e u' W' =>
  e=.returned (.tuple #[])∧u'=.panicking [{v:=.iface 145 (.agg #[.int .i64 x,.int .i64 c]),recovered:=true}]∧Below B W W'∧Blk W' p0 25 #[.slice none 0 0]∧Blk W' p1 3 #[.int .i64 x]∧Blk W' p2 26 #[.int .i64 c]:=by
 have c0:W.cell? ⟨p0,0,none⟩=some (.slice none 0 0):=h0.cell 0
 have c1:W.cell? ⟨p1,0,none⟩=some (.int .i64 0):=h1.cell 0
 have c2:W.cell? ⟨p2,0,none⟩=some (.int .i64 0):=h2.cell 0
 have f0:=h0.free 0
 have f1:=h1.free 0
 have f2:=h2.free 0
 have l0:p0≠W.heap.size:=Nat.ne_of_lt h0.lt
 have l1:p1≠W.heap.size:=Nat.ne_of_lt h1.lt
 have l2:p2≠W.heap.size:=Nat.ne_of_lt h2.lt
 have hb:Below W.heap.size W (W.alloc (.cells #[.int .i64 x,.int .i64 c] 145)):=(Below.refl _ _).alloc (Nat.le_refl _) _
 have g0:=(h0.kept hb).free 0
 have g1:=(h1.kept hb).free 0
 have g2:=(h2.kept hb).free 0
 have d0:(W.alloc (.cells #[.int .i64 x,.int .i64 c] 145)).cell? ⟨p0,0,none⟩=some (.slice none 0 0):=(h0.kept hb).cell 0
 have d1:(W.alloc (.cells #[.int .i64 x,.int .i64 c] 145)).cell? ⟨p1,0,none⟩=some (.int .i64 0):=(h1.kept hb).cell 0
 have d2:(W.alloc (.cells #[.int .i64 x,.int .i64 c] 145)).cell? ⟨p2,0,none⟩=some (.int .i64 0):=(h2.kept hb).cell 0
 have HH:=Lib.hid (And.intro (h0.kept hb) (And.intro (h1.kept hb) (And.intro (h2.kept hb) hb)))
 refine callsD_of_wpS Tryz.func100 rfl fun c₀ cs hu=>?_
 apply wpS_seq
 apply wpS_region
 simp [wpOpsS,go_sem,recoverD,hu,Tryz.ntmps100,Exit.thenS]
 refine wpS_of_wp ?_
 show Code.wp _ _ _ {tmps:=#[.pointer (some ⟨p0,0,none⟩),.pointer (some ⟨p1,0,none⟩),.pointer (some ⟨p2,0,none⟩),undef,undef,undef,.iface 145 (.agg #[.int .i64 x,.int .i64 c]),undef,undef,undef,undef,undef,undef,undef,undef,undef,undef],defers:=[]} W
 go_wp2_with fail
 go_region
 have k0:=((HH.out.1.put 0 (.slice none 0 0)).far (show p0≠(⟨p1,0,none⟩:Addr).block from n01) (.int .i64 x)).far (show p0≠(⟨p2,0,none⟩:Addr).block from n02) (.int .i64 c)
 have k1:=((HH.out.2.1.far (show p1≠(⟨p0,0,none⟩:Addr).block from Ne.symm n01) (.slice none 0 0)).put 0 (.int .i64 x)).far (show p1≠(⟨p2,0,none⟩:Addr).block from n12) (.int .i64 c)
 have k2:=((HH.out.2.2.1.far (show p2≠(⟨p0,0,none⟩:Addr).block from Ne.symm n02) (.slice none 0 0)).far (show p2≠(⟨p1,0,none⟩:Addr).block from Ne.symm n12) (.int .i64 x)).put 0 (.int .i64 c)
 have hB:B≤W.heap.size:=Nat.le_trans b0 (Nat.le_of_lt h0.lt)
 have kb:=((((HH.out.2.2.2.mono hB).setCell (p:=⟨p0,0,none⟩) b0 (.slice none 0 0)).setCell (p:=⟨p1,0,none⟩) b1 (.int .i64 x)).setCell (p:=⟨p2,0,none⟩) b2 (.int .i64 c)).drew
 exact ⟨rfl,_,rfl,.tuple #[],results_none rfl _ _ _,rfl,rfl,kb,k0,k1,k2⟩
theorem idle:CallsD Tryz.prog 100 #[.pointer (some ⟨p0,0,none⟩),.pointer (some ⟨p1,0,none⟩),.pointer (some ⟨p2,0,none⟩)] .returning W fun e u' W'=>e=.returned (.tuple #[])∧u'=.returning∧W'=W:=by
 refine callsD_of_wpS Tryz.func100 rfl fun c₀ cs hu=>?_
 apply wpS_seq
 apply wpS_region
 simp [wpOpsS,go_sem,recoverD,hu,Tryz.ntmps100,Exit.thenS]
 refine wpS_of_wp ?_
 show Code.wp _ _ _ {tmps:=#[.pointer (some ⟨p0,0,none⟩),.pointer (some ⟨p1,0,none⟩),.pointer (some ⟨p2,0,none⟩),undef,undef,undef,.nilIface,undef,undef,undef,undef,undef,undef,undef,undef,undef,undef],defers:=[]} W
 go_wp2_with fail
 cases c₀
 simp_all [bodyPostS,results]
end
end Go.Proofs.YtnaehhpikhlppaaGreatDoor
