/- Several texts of the proof, joined. -/
import Derived.Test.YtnaehhpikhlppaaGreatDoorE34
set_option maxHeartbeats 4000000
set_option maxRecDepth 100000
set_option linter.unusedVariables false
set_option linter.unusedSimpArgs false
namespace Go.Proofs.YtnaehhpikhlppaaGreatDoor
open Go.RowKit LexS ParS BigFrame
attribute [local go_sem] World.cell?_alloc_some cell_drewN_new free_drewN_new cell_drew_new free_drew_new
def tokR (k:Nat) (st:RSt):Tk:=match goP (take k) st with
 | .ok (t,_,_)=>t
 | .error _=>⟨0,[],0⟩
def Kind (base r:Nat) (tv:Value) (T:List Tok) (deep:Nat) (st:RSt) (nv:Value) (W:World) (k:Nat) (e:Ending) (W':World):Prop :=
 ∃ v,e=.returned v∧TokIs (tokR k st) v∧RF base r tv T deep (run (take k) st) nv W'∧Mv r W W'
abbrev zTok:Array Value:=#[.int .i64 0,.string ⟨#[]⟩,.int .i64 0,.int .i64 0]
section
variable {base r deep:Nat} {tv nv nv':Value} {T:List Tok} {st:RSt} {ts ts1:List Tk} {ns:List Nd} {W W' w1 w2:World}
theorem RF.far {b:Nat} {t:TypeId} {cs:Array Value} (h:RF base r tv T deep st nv W) (hb:Blk W b t cs) (h1:t≠3∧t≠9∧t≠85) (ht:tv.ownBlock≠some b) (hn:nv.ownBlock≠some b) (hr:b≠r) (i:Nat) (u:Value):RF base r tv T deep st nv (W.setCell ⟨b,i,none⟩ u):=by
 have row:∀ {b2 size n:Nat} {e:TypeId} {v:Value} {xs:List Value},W.ownsRow b2 e size v n xs→(e≠t∨v.ownBlock≠some b)→(W.setCell ⟨b,i,none⟩ u).ownsRow b2 e size v n xs:=by
  intro b2 size n e v xs ho hne
  refine ⟨ho.1,?_⟩
  rcases ho.2 with h4 | ⟨g,cap,cur,rfl,h5,h6,h7⟩
  ·exact .inl h4
  ·refine .inr ⟨g,cap,cur,rfl,h5,?_,h7⟩
   rw [← h6]
   simp only [World.setCell,Array.getElem?_modify]
   rw [if_neg (fun e1=>by
    rcases hne with hne | hne
    ·rw [← e1] at h6
     exact hne (block_types h6 hb)
    ·exact hne (by rw [e1];rfl))]
 obtain ⟨ns,⟨ms,k1,k2,k3⟩,k5,k4⟩:=h.nodes
 exact ⟨h.box.far (Ne.symm hr) _,h.le,row h.toks (.inr ht),h.left,h.suf,h.few,ns,⟨ms,k1,row k2 (.inr hn),fun m hm=>⟨row (k3 m hm).l (.inl (Ne.symm h1.1)),row (k3 m hm).names (.inl (Ne.symm h1.2.1)),row (k3 m hm).aggs (.inl (Ne.symm h1.2.2))⟩⟩,k5,k4⟩
theorem RF.own_lt (h:RF base r tv T deep st nv W):(∀ g,tv.ownBlock=some g→g<W.heap.size)∧(∀ g,nv.ownBlock=some g→g<W.heap.size):=by
 refine ⟨fun g hg=>(h.toks.lt g hg).2,fun g hg=>?_⟩
 obtain ⟨ns,⟨ms,_,ho,_⟩,_⟩:=h.nodes
 exact (ho.lt g hg).2
theorem run_take_error {k:Nat} (h:∀ t ts1 ns,st=.ok (t::ts1,ns)→t.kind≠k):run (take k) st=failR st∧tokR k st=⟨0,[],0⟩:=by
 rcases st with e | ⟨ts,ns⟩
 ·exact ⟨rfl,rfl⟩
 ·cases ts with
  | nil=>exact ⟨rfl,rfl⟩
  | cons t ts1 =>
    have hk:=h t ts1 ns rfl
    have e:take k (t::ts1) ns=.error (ts1.length+1,false):=if_neg hk
    unfold run tokR goP
    dsimp only
    rw [e]
    exact ⟨rfl,rfl⟩
theorem run_take_ok {t:Tk}:run (take t.kind) (.ok (t::ts1,ns))=.ok (ts1,ns)∧tokR t.kind (.ok (t::ts1,ns))=t:=by
 have e:take t.kind (t::ts1) ns=.ok (t,ts1,ns):=if_pos rfl
 unfold run tokR goP
 dsimp only
 rw [e]
 exact ⟨rfl,rfl⟩
theorem kind_end {k:Nat} (h:RF base r tv T deep st nv W) (hk:∀ t ts1 ns,st=.ok (t::ts1,ns)→t.kind≠k) (h2:RF base r tv T deep (failR st) nv w2) (m:Mv r W w2) (hx:Blk w2 W.heap.size 65 zTok) :
 Kind base r tv T deep st nv W k (.returned (.agg zTok)) ((((w2.setCell ⟨W.heap.size,0,none⟩ (.int .i64 0)).setCell ⟨W.heap.size,1,none⟩ (.string ⟨#[]⟩)).setCell ⟨W.heap.size,2,none⟩ (.int .i64 0)).setCell ⟨W.heap.size,3,none⟩ (.int .i64 0)):=by
 obtain ⟨e1,e2⟩:=run_take_error hk
 have nr:W.heap.size≠r:=Nat.ne_of_gt h.box.lt
 have nt:tv.ownBlock≠some W.heap.size:=fun e=>Nat.lt_irrefl _ (h.own_lt.1 _ e)
 have nn:nv.ownBlock≠some W.heap.size:=fun e=>Nat.lt_irrefl _ (h.own_lt.2 _ e)
 have hd:(65:TypeId)≠3∧(65:TypeId)≠9∧(65:TypeId)≠85:=by decide
 refine ⟨_,rfl,⟨0,by rw [e2];rfl⟩,?_,(((m.far (Nat.le_refl _) _ _).far (Nat.le_refl _) _ _).far (Nat.le_refl _) _ _).far (Nat.le_refl _) _ _⟩
 rw [e1]
 exact (((h2.far hx hd nt nn nr 0 _).far (hx.put 0 _) hd nt nn nr 1 _).far ((hx.put 0 _).put 1 _) hd nt nn nr 2 _).far (((hx.put 0 _).put 1 _).put 2 _) hd nt nn nr 3 _
theorem kind_r (k:Nat) (h:RF base r tv T deep st nv W):Calls Tryz.prog 80 #[RP r,.int .i64 (k:Int)] W (Kind base r tv T deep st nv W k):=by
 obtain ⟨p,cap,rfl,hcap,hmax,hrow⟩:=row_any h.toks
 have hfew:=h.few
 obtain ⟨W0,hW0⟩:∃ W0,W0=W.alloc (.cells zTok 65):=⟨_,rfl⟩
 have hb0:Below W.heap.size W W0:=by rw [hW0];exact (Below.refl _ _).alloc (Nat.le_refl _) _
 have hx0:Blk W0 W.heap.size 65 zTok:=by rw [hW0];exact Blk.new W _ _
 have H0:=h.kept hb0
 have HR:=Lib.hid h
 have HB:=Lib.hid hb0
 have HX:=Lib.hid hx0
 have HH:=Lib.hid H0
 have HW:=Lib.hid hW0
 have c0:W0.cell? ⟨r,0,none⟩=some (.slice p T.length cap):=H0.box.cell 0
 have f1:=H0.box.free 1
 have nr:r≠W.heap.size:=Nat.ne_of_lt h.box.lt
 have nr2:W.heap.size≠r:=nr.symm
 have no:∀ (W':World) (m:Mv r W0 W'),Blk W' W.heap.size 65 zTok:=fun W' m=>m.blk HX.out nr2
 have HNO:=Lib.hid no
 clear no
 rcases st with ⟨kk,long⟩ | ⟨ts,ns⟩
 ·have c3:W0.cell? ⟨r,3,none⟩=some (.int .i64 (codeOf long:Int)):=H0.box.cell 3
  have hc:=codeOf_ne long
  obtain ⟨c,hcc⟩:∃ c,c=codeOf long:=⟨_,rfl⟩
  rw [← hcc] at c3 hc
  have q1:((c:Int) != 0)=true:=by rw [bne_iff_ne];omega
  have q2:¬ (c:Int)=0:=by omega
  clear hrow h hc hcc hW0 hb0 hx0 H0
  go_enter Tryz.func80,Tryz.ntmps80
  go_wp2_with fail
  rw [show W.alloc (.cells zTok 65)=W0 from HW.out.symm]
  go_big_quiet (fail)
  go_wp2_with fail
  have hbq:Below W0.heap.size W0 (W0.drewN nq):=below_drewN (Below.refl _ _) nq
  refine (fail_r (HH.out.kept hbq)).mono ?_
  rintro e w2 ⟨rfl,h2,m2⟩
  have hx:=HNO.out _ ((Stp.of hbq).trans m2)
  have HE:=Lib.hid (kind_end (k:=k) HR.out (fun t ts1 ns e=>by cases e) h2 ((Stp.of (HB.out.trans (hbq.mono HB.out.size))).trans m2) hx)
  have e0:w2.cell? ⟨W.heap.size,0,none⟩=some (.int .i64 0):=hx.cell 0
  have e1:w2.cell? ⟨W.heap.size,1,none⟩=some (.string ⟨#[]⟩):=hx.cell 1
  have e2:w2.cell? ⟨W.heap.size,2,none⟩=some (.int .i64 0):=hx.cell 2
  have e3:w2.cell? ⟨W.heap.size,3,none⟩=some (.int .i64 0):=hx.cell 3
  have x0:=hx.free 0
  have x1:=hx.free 1
  have x2:=hx.free 2
  have x3:=hx.free 3
  clear hx h2 m2 hbq
  go_wp2_with fail
  refine bodyPost_ret (v:=.agg zTok) ?_ rfl HE.out
  simp [results,Tryz.results80,go_sem,e0,e1,e2,e3]
 ·have c3:W0.cell? ⟨r,3,none⟩=some (.int .i64 0):=H0.box.cell 3
  cases ts with
  | nil =>
    have c1:W0.cell? ⟨r,1,none⟩=some (.int .i64 (T.length:Int)):=H0.box.cell 1
    have q1:(T.length:Int)≤(T.length:Int):=by omega
    have q2:decide ((T.length:Int)≤(T.length:Int))=true:=decide_eq_true q1
    clear hrow h hW0 hb0 hx0 H0
    go_enter Tryz.func80,Tryz.ntmps80
    go_wp2_with fail
    rw [show W.alloc (.cells zTok 65)=W0 from HW.out.symm]
    go_big_quiet (fail)
    go_wp2_with fail
    have hbq:Below W0.heap.size W0 (W0.drewN nq):=below_drewN (Below.refl _ _) nq
    refine (fail_r (HH.out.kept hbq)).mono ?_
    rintro e w2 ⟨rfl,h2,m2⟩
    have hx:=HNO.out _ ((Stp.of hbq).trans m2)
    have HE:=Lib.hid (kind_end (k:=k) HR.out (fun t ts1 ns e=>by cases e) h2 ((Stp.of (HB.out.trans (hbq.mono HB.out.size))).trans m2) hx)
    have e0:w2.cell? ⟨W.heap.size,0,none⟩=some (.int .i64 0):=hx.cell 0
    have e1:w2.cell? ⟨W.heap.size,1,none⟩=some (.string ⟨#[]⟩):=hx.cell 1
    have e2:w2.cell? ⟨W.heap.size,2,none⟩=some (.int .i64 0):=hx.cell 2
    have e3:w2.cell? ⟨W.heap.size,3,none⟩=some (.int .i64 0):=hx.cell 3
    have x0:=hx.free 0
    have x1:=hx.free 1
    have x2:=hx.free 2
    have x3:=hx.free 3
    clear hx h2 m2 hbq
    go_wp2_with fail
    refine bodyPost_ret (v:=.agg zTok) ?_ rfl HE.out
    simp [results,Tryz.results80,go_sem,e0,e1,e2,e3]
  | cons t ts1 =>
    obtain ⟨u,hu,hut,hlt⟩:=tok_at (h.suf _ _ rfl) h.left rfl
    obtain ⟨i,hi⟩:∃ i,i=T.length-(t::ts1).length:=⟨_,rfl⟩
    rw [← hi] at hu hlt
    obtain ⟨g,rfl,_,hg,hcells⟩:=hrow (by rintro rfl;simp at hlt)
    obtain ⟨d0,d1,d2,d3⟩:=hcells i u hu
    have d0:=keepc hb0 d0
    have d1:=keepc hb0 d1
    have d2:=keepc hb0 d2
    have d3:=keepc hb0 d3
    have c1:W0.cell? ⟨r,1,none⟩=some (.int .i64 (i:Int)):=by rw [hi];exact H0.box.cell 1
    have q1:¬ (T.length:Int)≤(i:Int):=by omega
    have q2:decide ((T.length:Int)≤(i:Int))=false:=decide_eq_false q1
    have q3:decide (T.length≤i)=false:=decide_eq_false (by omega)
    have q4:(0:Int)≤(i:Int):=by omega
    have q5:(i:Int)<(T.length:Int):=by omega
    by_cases hk:u.kind=k
    case neg =>
     have q6:((u.kind:Int) != (k:Int))=true:=by rw [bne_iff_ne];omega
     have q7:¬ (u.kind:Int)=(k:Int):=by omega
     have HK:=Lib.hid (show ∀ t' ts1' ns',(Except.ok (t::ts1,ns):RSt)=.ok (t'::ts1',ns')→t'.kind≠k from fun t' ts1' ns' e=>by
      cases e
      rw [← hut]
      exact hk)
     clear hrow h hW0 hb0 hx0 H0 hcells hi hu hut hk
     go_enter Tryz.func80,Tryz.ntmps80
     go_wp2_with fail
     rw [show W.alloc (.cells zTok 65)=W0 from HW.out.symm]
     go_big_quiet (fail)
     go_wp2_with fail
     have hbq:Below W0.heap.size W0 (W0.drewN nq):=below_drewN (Below.refl _ _) nq
     refine (fail_r (HH.out.kept hbq)).mono ?_
     rintro e w2 ⟨rfl,h2,m2⟩
     have hx:=HNO.out _ ((Stp.of hbq).trans m2)
     have HE:=Lib.hid (kind_end (k:=k) HR.out HK.out h2 ((Stp.of (HB.out.trans (hbq.mono HB.out.size))).trans m2) hx)
     have e0:w2.cell? ⟨W.heap.size,0,none⟩=some (.int .i64 0):=hx.cell 0
     have e1:w2.cell? ⟨W.heap.size,1,none⟩=some (.string ⟨#[]⟩):=hx.cell 1
     have e2:w2.cell? ⟨W.heap.size,2,none⟩=some (.int .i64 0):=hx.cell 2
     have e3:w2.cell? ⟨W.heap.size,3,none⟩=some (.int .i64 0):=hx.cell 3
     have x0:=hx.free 0
     have x1:=hx.free 1
     have x2:=hx.free 2
     have x3:=hx.free 3
     clear hx h2 m2 hbq
     go_wp2_with fail
     refine bodyPost_ret (v:=.agg zTok) ?_ rfl HE.out
     simp [results,Tryz.results80,go_sem,e0,e1,e2,e3]
    case pos =>
     obtain ⟨kd,hkd⟩:∃ kd,kd=u.kind:=⟨_,rfl⟩
     have HT:=Lib.hid (show TokIs t (.agg #[.int .i64 (kd:Int),.string ⟨u.s.toArray⟩,.int .i64 u.n,.int .i64 (u.at_:Int)]) from ⟨(u.at_:Int),by rw [hkd,← hut];rfl⟩)
     have HKT:=Lib.hid (show t.kind=k by rw [← hut];exact hk)
     rw [← hk,← hkd]
     rw [← hkd] at d0
     have q6:((kd:Int) != (kd:Int))=false:=by simp
     have ng:g≠W.heap.size:=Nat.ne_of_lt hg
     have ng2:W.heap.size≠g:=ng.symm
     have nrg:g≠r:=by
      intro e
      subst e
      exact h.t_ne rfl
     have HI:=Lib.hid hi
     have HKD:=Lib.hid (And.intro hkd hk)
     have hbig:(i:Int)≤1024:=by omega
     clear hrow h hW0 hb0 hx0 H0 hcells hi hu hut hk hkd
     go_enter Tryz.func80,Tryz.ntmps80
     go_wp2_with fail
     rw [show W.alloc (.cells zTok 65)=W0 from HW.out.symm]
     go_big_quiet (fail)
     go_wp2_with fail
     obtain ⟨W2,hW2⟩:∃ W2,W2=(W0.drewN nq).setCell ⟨r,1,none⟩ (.int .i64 ((i:Int)+1)):=⟨_,rfl⟩
     have hbq:Below W0.heap.size W0 (W0.drewN nq):=below_drewN (Below.refl _ _) nq
     have H2:RF base r (.slice (some ⟨g,0,none⟩) T.length cap) T deep (.ok (ts1,ns)) nv W2:=by rw [hW2];exact (HH.out.kept hbq).next (by rw [HI.out])
     have S2:Mv r W W2:=by rw [hW2];exact (Stp.of (HB.out.trans (hbq.mono HB.out.size))).set 1 _
     have X2:Blk W2 W.heap.size 65 zTok:=by rw [hW2];exact (HX.out.kept hbq).far nr.symm _
     have c0:W2.cell? ⟨r,0,none⟩=some (.slice (some ⟨g,0,none⟩) T.length cap):=H2.box.cell 0
     have c1:W2.cell? ⟨r,1,none⟩=some (.int .i64 ((i:Int)+1)):=by
      have:=H2.box.cell 1
      rw [this]
      have e:T.length-ts1.length=i+1:=by
       have h1:ts1.length≤T.length:=H2.left
       have h2:=HI.out
       have h3:(t::ts1).length≤T.length:=HR.out.left
       rw [List.length_cons] at h2 h3
       omega
      show some (Value.int .i64 ((T.length-ts1.length:Nat):Int))=_
      rw [e]
      rfl
     have d0:W2.cell? ⟨g,i*4,none⟩=some (.int .i64 (kd:Int)):=by rw [hW2];exact (cell?_setCell_ne nrg).trans d0
     have d1:W2.cell? ⟨g,i*4+1,none⟩=some (.string ⟨u.s.toArray⟩):=by rw [hW2];exact (cell?_setCell_ne nrg).trans d1
     have d2:W2.cell? ⟨g,i*4+2,none⟩=some (.int .i64 u.n):=by rw [hW2];exact (cell?_setCell_ne nrg).trans d2
     have d3:W2.cell? ⟨g,i*4+3,none⟩=some (.int .i64 (u.at_:Int)):=by rw [hW2];exact (cell?_setCell_ne nrg).trans d3
     have e0:W2.cell? ⟨W.heap.size,0,none⟩=some (.int .i64 0):=X2.cell 0
     have e1:W2.cell? ⟨W.heap.size,1,none⟩=some (.string ⟨#[]⟩):=X2.cell 1
     have e2:W2.cell? ⟨W.heap.size,2,none⟩=some (.int .i64 0):=X2.cell 2
     have e3:W2.cell? ⟨W.heap.size,3,none⟩=some (.int .i64 0):=X2.cell 3
     have x0:=X2.free 0
     have x1:=X2.free 1
     have x2:=X2.free 2
     have x3:=X2.free 3
     have HF:=Lib.hid (And.intro H2 (And.intro S2 X2))
     have v1:IntKind.i64.wrap (i:Int)=(i:Int):=IntWalk.i64_in _ (by omega)
     have v2:IntKind.i64.wrap ((i:Int)+1-1)=(i:Int):=by rw [show ((i:Int)+1-1)=(i:Int) by omega];exact v1
     rw [← hW2]
     clear hW2 hbq H2 S2 X2 f1
     go_region_held3 (fun w'=>w'.cell? ⟨r,0,none⟩=some (.slice (some ⟨g,0,none⟩) T.length cap)∧w'.cell? ⟨r,1,none⟩=some (.int .i64 ((i:Int)+1))∧w'.cell? ⟨g,i*4,none⟩=some (.int .i64 (kd:Int))∧w'.cell? ⟨g,i*4+1,none⟩=some (.string ⟨u.s.toArray⟩)∧w'.cell? ⟨g,i*4+2,none⟩=some (.int .i64 u.n)∧w'.cell? ⟨g,i*4+3,none⟩=some (.int .i64 (u.at_:Int))) (go_keep) (fail)
     go_wp2_with fail
     have hkt:t.kind=kd:=by rw [HKT.out,HKD.out.1,HKD.out.2]
     refine bodyPost_ret (v:=.agg #[.int .i64 (kd:Int),.string ⟨u.s.toArray⟩,.int .i64 u.n,.int .i64 (u.at_:Int)]) ?_ rfl ⟨_,rfl,?_,?_⟩
     ·simp [results,Tryz.results80,go_sem,e0,e1,e2,e3]
     ·rw [← hkt,run_take_ok.2]
      exact hkt▸HT.out
     ·rw [← hkt,run_take_ok.1]
      have hs:=HF.out.2.1
      have h2:=HF.out.1
      have hx:=HF.out.2.2
      have nt:(Value.slice (some ⟨g,0,none⟩) T.length cap).ownBlock≠some W.heap.size:=fun e=>by injection e with e;exact ng e
      have nn:nv.ownBlock≠some W.heap.size:=fun e=>Nat.lt_irrefl _ (HR.out.own_lt.2 _ e)
      have hd:(65:TypeId)≠3∧(65:TypeId)≠9∧(65:TypeId)≠85:=by decide
      exact ⟨((((h2.far hx hd nt nn nr2 0 _).far (hx.put 0 _) hd nt nn nr2 1 _).far ((hx.put 0 _).put 1 _) hd nt nn nr2 2 _).far (((hx.put 0 _).put 1 _).put 2 _) hd nt nn nr2 3 _).kept (below_drewN (Below.refl _ _) 1),((((hs.far (Nat.le_refl _) _ _).far (Nat.le_refl _) _ _).far (Nat.le_refl _) _ _).far (Nat.le_refl _) _ _).drew⟩
end
end Go.Proofs.YtnaehhpikhlppaaGreatDoor

namespace Go.Proofs.YtnaehhpikhlppaaGreatDoor
open Go.RowKit LexS ParS BigFrame
attribute [local go_sem] World.cell?_alloc_some cell_drewN_new free_drewN_new cell_drew_new free_drew_new
section
variable {base r deep:Nat} {tv nv nv':Value} {T:List Tok} {st:RSt} {ts ts1:List Tk} {ns:List Nd} {W W' Wk w1 w2:World}
theorem layR_fin {m:NodeM} {ms:List NodeM} {g cap:Nat} (h:RF base r tv T deep (.ok (ts,ns)) nv W) (hm:MOk W base m) (hms:ms.map (·.node)=ns) (hall:∀ x∈ms,MOk W base x) (hb:Below W.heap.size W Wk) (h5:ns.length<5000)
 (ho:W'.ownsRow base 42 19 (.slice (some ⟨g,0,none⟩) (ns.length+1) cap) (ns.length+1) (cellsM ms++m.cells)) (hg:Wk.grownBy W' nv.ownBlock) (hgH:nv.ownBlock=some g∨g=Wk.heap.size) :
 RF base r tv T deep (.ok (ts,ns++[m.node])) (.slice (some ⟨g,0,none⟩) (ns.length+1) cap) (W'.setCell ⟨r,2,none⟩ (.slice (some ⟨g,0,none⟩) (ns.length+1) cap)) ∧
  Stp r nv W (.slice (some ⟨g,0,none⟩) (ns.length+1) cap) (W'.setCell ⟨r,2,none⟩ (.slice (some ⟨g,0,none⟩) (ns.length+1) cap)):=by
 have s1:Stp r nv W (.slice (some ⟨g,0,none⟩) (ns.length+1) cap) W':=Stp.grown hb hg rfl hgH
 have s:=s1.set 2 (.slice (some ⟨g,0,none⟩) (ns.length+1) cap)
 have hbox:Blk W' r 81 #[tv,.int .i64 ((T.length-ts.length:Nat):Int),nv,.int .i64 0,.int .i64 (deep:Int)]:=(hg.block r (Nat.lt_of_lt_of_le h.box.lt hb.size) (fun e=>h.r_ne e.symm)).trans (h.box.kept hb)
 have hgr:g≠r:=by
  intro e
  obtain ⟨cur,hc⟩:=row_block ho rfl
  rw [e] at hc
  have:=block_types hc hbox
  cases this
 refine ⟨⟨hbox.put 2 _,h.le,h.row s h.toks (by decide) (by decide),h.left,fun ts' ns' e=>?_,h.few,ns++[m.node],⟨ms++[m],by simp [hms],?_,?_⟩,by simp;omega,fun ts' ns' e=>?_⟩,s⟩
 ·cases e
  exact h.suf _ _ rfl
 ·rw [← cellsM_app,List.length_append]
  refine ⟨ho.1,?_⟩
  rcases ho.2 with ⟨h4,_⟩ | ⟨g',cap',cur,h4,h5,h6,h7⟩
  ·cases h4
  ·refine .inr ⟨g',cap',cur,h4,h5,?_,h7⟩
   rw [← h6]
   simp only [World.setCell,Array.getElem?_modify]
   injection h4 with h4
   injection h4 with h4
   injection h4 with h4
   rw [if_neg (fun e=>hgr (by rw [e,h4]))]
 ·intro x hx
  rcases List.mem_append.1 hx with hx | hx
  ·exact h.mok (hall x hx) s
  ·rw [List.mem_singleton.1 hx]
   exact h.mok hm s
 ·cases e
  rfl
def LayP (base r:Nat) (tv:Value) (T:List Tok) (deep:Nat) (st:RSt) (nd:Nd) (nv:Value) (W:World) (e:Ending) (W':World):Prop :=
 ∃ (nv':Value) (i:Int),e=.returned (.int .i64 i)∧(∀ ts ns,st=.ok (ts,ns)→i=(ns.length:Int))∧RF base r tv T deep (run (lay nd) st) nv' W'∧Stp r nv W nv' W'
theorem lay_bad (cs:Array Value) (nd:Nd) {er:Er} (h:RF base r tv T deep (.error er) nv W):Calls Tryz.prog 68 #[RP r,.agg cs] W (LayP base r tv T deep (.error er) nd nv W):=by
 obtain ⟨W0,hW0⟩:∃ W0,W0=W.alloc (.cells cs 42):=⟨_,rfl⟩
 have hb0:Below W.heap.size W W0:=by rw [hW0];exact (Below.refl _ _).alloc (Nat.le_refl _) _
 obtain ⟨ns,hns,hl,_⟩:=h.nodes
 obtain ⟨no,nc,rfl⟩:∃ o c,nv=.slice o ns.length c:=by
  obtain ⟨ms,_,ho,_⟩:=hns
  exact slice_form ho
 have H0:=h.kept hb0
 have c3:W0.cell? ⟨r,3,none⟩=some (.int .i64 (codeOf er.2:Int)):=H0.box.cell 3
 have c2:W0.cell? ⟨r,2,none⟩=some (.slice no ns.length nc):=H0.box.cell 2
 have hc:=codeOf_ne er.2
 obtain ⟨c,hcc⟩:∃ c,c=codeOf er.2:=⟨_,rfl⟩
 rw [← hcc] at c3 hc
 have q1:((c:Int) == 0)=false:=by rw [beq_eq_false_iff_ne];omega
 have q2:¬ (c:Int)=0:=by omega
 have HW:=Lib.hid hW0
 have HE:=Lib.hid (And.intro H0 (Stp.of (r:=r) (nv:=.slice no ns.length nc) hb0))
 clear h hc hcc hns H0 hW0 hb0
 have v0:IntKind.i64.wrap ((ns.length:Int)-1)=(ns.length:Int)-1:=IntWalk.i64_in _ (by omega)
 clear hl
 go_enter Tryz.func68,Tryz.ntmps68
 go_upto_region 1 with (fail)
 rw [show W.alloc (.cells cs 42)=W0 from HW.out.symm]
 go_wp2_with fail
 go_ret
 exact ⟨_,_,rfl,fun ts ns e=>(by cases e),HE.out⟩
theorem lay_ok {m:NodeM} (h:RF base r tv T deep (.ok (ts,ns)) nv W) (hm:MOk W base m) (hn:ns.length<5000) (hbase:base≤W.heap.size) :
 Calls Tryz.prog 68 #[RP r,.agg m.cells.toArray] W (LayP base r tv T deep (.ok (ts,ns)) m.node nv W):=by
 obtain ⟨ns0,⟨ms,hms,hrow,hall⟩,_,hns⟩:=h.nodes
 obtain rfl:=hns _ _ rfl
 have h1:=one_cells m hm
 have hcl:m.cells.length=19:=rfl
 obtain ⟨cs,hcs⟩:∃ cs,cs=m.cells:=⟨_,rfl⟩
 rw [← hcs] at h1 hcl ⊢
 obtain ⟨W0,hW0⟩:∃ W0,W0=W.alloc (.cells cs.toArray 42):=⟨_,rfl⟩
 have hb0:Below W.heap.size W W0:=by rw [hW0];exact (Below.refl _ _).alloc (Nat.le_refl _) _
 have hx0:Blk W0 W.heap.size 42 cs.toArray:=by rw [hW0];exact Blk.new W _ _
 have H0:=h.kept hb0
 have HR0:=own_kept hrow hb0
 have c3:W0.cell? ⟨r,2,none⟩=some nv:=H0.box.cell 2
 have c4:W0.cell? ⟨r,3,none⟩=some (.int .i64 0):=H0.box.cell 3
 have f3:=H0.box.free 2
 have HH:=Lib.hid h
 have HM:=Lib.hid hm
 have HA:=Lib.hid hall
 have HC:=Lib.hid hcs
 have HW:=Lib.hid hW0
 have HX:=Lib.hid hx0
 have HB:=Lib.hid hb0
 have HRW:=Lib.hid hrow
 have HMS:=Lib.hid hms
 clear h hm hall hcs H0 hx0 hb0 hrow hns hms hW0
 go_enter Tryz.func68,Tryz.ntmps68
 go_upto_region 1 with (fail)
 rw [show W.alloc (.cells cs.toArray 42)=W0 from HW.out.symm]
 go_wp2_with fail
 obtain ⟨i0,hi0,hz0,hz1,hz2⟩:=info_parts infoNode
 have hsz:(Tryz.prog.info? 42).map (·.size)=some cs.length:=by rw [hcl];exact sizeNode
 have hbs:=fold_nd cs hcl
 obtain ⟨Wk,hWk⟩:∃ Wk,Wk=(W0.alloc (.cells cs.toArray 42)).drew:=⟨_,rfl⟩
 have hbk:Below W0.heap.size W0 Wk:=by rw [hWk];exact ((Below.refl _ _).alloc (Nat.le_refl _) _).drew
 have HBK:=Lib.hid (chain HB.out hbk)
 have HRA:=Lib.hid (own_kept HR0 hbk)
 have hrng:W0.rangeAt W.heap.size 0 cs:=by
  intro j v hj
  rw [Nat.zero_add,HX.out.cell j]
  simpa using hj
 have hS0:W0.drew.cell? ⟨r,2,none⟩=some nv∧W0.drew.rangeAt W.heap.size 0 cs:=⟨c3,hrng⟩
 have hS1:Wk.cell? ⟨r,2,none⟩=some nv∧Wk.rangeAt W.heap.size 0 cs:=⟨keepc hbk c3,fun j v hj=>keepc hbk (hrng j v hj)⟩
 have c3b:=hS1.1
 have f3b:Wk.frozen? ⟨r,2,none⟩=false:=((HH.out.kept HBK.out).box).free 2
 have HN:=Lib.hid (show ∀ (j:Nat) u,cs[j]?=some u→Wk.cell? ((⟨W0.heap.size,0,none⟩:Addr).add j)=some u by
  intro j u hu
  rw [hWk]
  have:=blk_cells (Blk.new W0 42 cs.toArray).drew j u (by simpa using hu)
  exact this)
 have hnw:nv.ownBlock≠some W.heap.size:=fun e=>by
  have:=HRW.out.lt _ e
  omega
 have hS2:∀ w1:World,w1.cell? ⟨r,2,none⟩=some nv→Wk.grownBy w1 nv.ownBlock→w1.cell? ⟨r,2,none⟩=some nv∧w1.rangeAt W.heap.size 0 cs:=fun w1 h1 hg=>⟨h1,fun j v hj=>hg.cell (hS1.2 j v hj) (fun e=>hnw e.symm)⟩
 have hr2:r<Wk.heap.size:=Nat.lt_of_lt_of_le HH.out.box.lt HBK.out.size
 have hbs2:base≤Wk.heap.size:=Nat.le_trans hbase HBK.out.size
 have hmx:ns.length+1≤maxLen:=by unfold maxLen;omega
 have hby:(ns.length+1)*216≤140737488355328:=by omega
 have hcl1:cs.length=1*19:=by rw [hcl]
 have HWK:=Lib.hid hWk
 clear hWk
 rw [show (#[{dst:=some 10,op:=Op.move (Operand.tmp 0),type:=79,pos := "ref.go:59",after:=#[],guard:=none},{dst:=some 11,op:=Op.move (Operand.tmp 0),type:=79,pos := "ref.go:59",after:=#[],guard:=none},{dst:=some 12,op:=Op.nilCheck (Operand.tmp 11),type:=0,pos := "ref.go:59",after:=#[⟨1,.data⟩],guard:=none},{dst:=some 13,op:=Op.fieldAddr 81 (Operand.tmp 12) 2,type:=0,pos := "ref.go:59",after:=#[⟨2,.data⟩],guard:=none},{dst:=some 14,op:=Op.load 23 (Operand.tmp 13),type:=23,pos := "ref.go:59",after:=#[⟨3,.data⟩],guard:=none},{dst:=some 15,op:=Op.load 42 (Operand.tmp 3),type:=42,pos := "ref.go:59",after:=#[],guard:=none},{dst:=some 16,op:=Op.buildSlice 23 1 #[(0,Operand.tmp 15)],type:=23,pos := "ref.go:59",after:=#[⟨5,.data⟩],guard:=none},{dst:=some 17,op:=Op.call {callee:=Callee.builtin Go.Builtin.append,args:=#[Operand.tmp 14,Operand.tmp 16],argTypes:=#[23,23]},type:=23,pos := "ref.go:59",after:=#[⟨4,.data⟩,⟨6,.data⟩],guard:=none},{dst:=some 18,op:=Op.nilCheck (Operand.tmp 10),type:=0,pos := "ref.go:59",after:=#[⟨0,.data⟩,⟨0,.phase⟩,⟨1,.phase⟩,⟨2,.phase⟩,⟨3,.phase⟩,⟨4,.phase⟩,⟨5,.phase⟩,⟨6,.phase⟩,⟨7,.phase⟩],guard:=none},{dst:=some 19,op:=Op.fieldAddr 81 (Operand.tmp 18) 2,type:=0,pos := "ref.go:59",after:=#[⟨8,.data⟩,⟨0,.phase⟩,⟨1,.phase⟩,⟨2,.phase⟩,⟨3,.phase⟩,⟨4,.phase⟩,⟨5,.phase⟩,⟨6,.phase⟩,⟨7,.phase⟩],guard:=none},{dst:=none,op:=Op.store 23 (Operand.tmp 19) (Operand.tmp 17),type:=0,pos := "ref.go:59",after:=#[⟨9,.data⟩,⟨7,.data⟩,⟨7,.chain⟩,⟨0,.phase⟩,⟨1,.phase⟩,⟨2,.phase⟩,⟨3,.phase⟩,⟨4,.phase⟩,⟨5,.phase⟩,⟨6,.phase⟩,⟨7,.phase⟩],guard:=none}]:Array Oper)=Array.push #[{dst:=some 10,op:=Op.move (Operand.tmp 0),type:=79,pos := "ref.go:59",after:=#[],guard:=none},{dst:=some 11,op:=Op.move (Operand.tmp 0),type:=79,pos := "ref.go:59",after:=#[],guard:=none},{dst:=some 12,op:=Op.nilCheck (Operand.tmp 11),type:=0,pos := "ref.go:59",after:=#[⟨1,.data⟩],guard:=none},{dst:=some 13,op:=Op.fieldAddr 81 (Operand.tmp 12) 2,type:=0,pos := "ref.go:59",after:=#[⟨2,.data⟩],guard:=none},{dst:=some 14,op:=Op.load 23 (Operand.tmp 13),type:=23,pos := "ref.go:59",after:=#[⟨3,.data⟩],guard:=none},{dst:=some 15,op:=Op.load 42 (Operand.tmp 3),type:=42,pos := "ref.go:59",after:=#[],guard:=none},{dst:=some 16,op:=Op.buildSlice 23 1 #[(0,Operand.tmp 15)],type:=23,pos := "ref.go:59",after:=#[⟨5,.data⟩],guard:=none},{dst:=some 17,op:=Op.call {callee:=Callee.builtin Go.Builtin.append,args:=#[Operand.tmp 14,Operand.tmp 16],argTypes:=#[23,23]},type:=23,pos := "ref.go:59",after:=#[⟨4,.data⟩,⟨6,.data⟩],guard:=none},{dst:=some 18,op:=Op.nilCheck (Operand.tmp 10),type:=0,pos := "ref.go:59",after:=#[⟨0,.data⟩,⟨0,.phase⟩,⟨1,.phase⟩,⟨2,.phase⟩,⟨3,.phase⟩,⟨4,.phase⟩,⟨5,.phase⟩,⟨6,.phase⟩,⟨7,.phase⟩],guard:=none},{dst:=some 19,op:=Op.fieldAddr 81 (Operand.tmp 18) 2,type:=0,pos := "ref.go:59",after:=#[⟨8,.data⟩,⟨0,.phase⟩,⟨1,.phase⟩,⟨2,.phase⟩,⟨3,.phase⟩,⟨4,.phase⟩,⟨5,.phase⟩,⟨6,.phase⟩,⟨7,.phase⟩],guard:=none}] {dst:=none,op:=Op.store 23 (Operand.tmp 19) (Operand.tmp 17),type:=0,pos := "ref.go:59",after:=#[⟨9,.data⟩,⟨7,.data⟩,⟨7,.chain⟩,⟨0,.phase⟩,⟨1,.phase⟩,⟨2,.phase⟩,⟨3,.phase⟩,⟨4,.phase⟩,⟨5,.phase⟩,⟨6,.phase⟩,⟨7,.phase⟩],guard:=none} from rfl]
 refine wp_region_last (S:=fun w'=>w'.cell? ⟨r,2,none⟩=some nv∧w'.rangeAt W.heap.size 0 cs) (by kernel_rfl) (by kernel_rfl) hS0 (fun hHeld=>?_)
 refine wpAnyH_take (i:=0) (oi:={dst:=some 10,op:=Op.move (Operand.tmp 0),type:=79,pos := "ref.go:59",after:=#[],guard:=none}) (v := ?v1) rfl (by kernel_rfl) (by kernel_rfl) (by kernel_rfl) (fun _ _ _ h=>h) (Or.inl ⟨by rfl,?hy1⟩) (by assumption) ?rest1
 case hy1 =>
  intro w hSw
  (try dsimp only at hSw)
  go_simp
  try with_reducible rfl
 try simp only [Act.put,List.setIfInBounds_toArray,List.set_cons_zero,List.set_cons_succ]
 refine wpAnyH_take (i:=1) (oi:={dst:=some 11,op:=Op.move (Operand.tmp 0),type:=79,pos := "ref.go:59",after:=#[],guard:=none}) (v := ?v2) rfl (by kernel_rfl) (by kernel_rfl) (by kernel_rfl) (fun _ _ _ h=>h) (Or.inl ⟨by rfl,?hy2⟩) (by assumption) ?rest2
 case hy2 =>
  intro w hSw
  (try dsimp only at hSw)
  go_simp
  try with_reducible rfl
 try simp only [Act.put,List.setIfInBounds_toArray,List.set_cons_zero,List.set_cons_succ]
 refine wpAnyH_take (i:=2) (oi:={dst:=some 12,op:=Op.nilCheck (Operand.tmp 11),type:=0,pos := "ref.go:59",after:=#[⟨1,.data⟩],guard:=none}) (v := ?v3) rfl (by kernel_rfl) (by kernel_rfl) (by kernel_rfl) (fun _ _ _ h=>h) (Or.inl ⟨by rfl,?hy3⟩) (by assumption) ?rest3
 case hy3 =>
  intro w hSw
  (try dsimp only at hSw)
  go_simp
  try with_reducible rfl
 try simp only [Act.put,List.setIfInBounds_toArray,List.set_cons_zero,List.set_cons_succ]
 refine wpAnyH_take (i:=3) (oi:={dst:=some 13,op:=Op.fieldAddr 81 (Operand.tmp 12) 2,type:=0,pos := "ref.go:59",after:=#[⟨2,.data⟩],guard:=none}) (v := ?v4) rfl (by kernel_rfl) (by kernel_rfl) (by kernel_rfl) (fun _ _ _ h=>h) (Or.inl ⟨by rfl,?hy4⟩) (by assumption) ?rest4
 case hy4 =>
  intro w hSw
  (try dsimp only at hSw)
  go_simp
  try with_reducible rfl
 try simp only [Act.put,List.setIfInBounds_toArray,List.set_cons_zero,List.set_cons_succ]
 refine wpAnyH_take (i:=4) (oi:={dst:=some 14,op:=Op.load 23 (Operand.tmp 13),type:=23,pos := "ref.go:59",after:=#[⟨3,.data⟩],guard:=none}) (v := ?v5) rfl (by kernel_rfl) (by kernel_rfl) (by kernel_rfl) (fun _ _ _ h=>h) (Or.inl ⟨by rfl,?hy5⟩) (by assumption) ?rest5
 case hy5 =>
  intro w hSw
  (try dsimp only at hSw)
  go_simp
  try with_reducible rfl
 try simp only [Act.put,List.setIfInBounds_toArray,List.set_cons_zero,List.set_cons_succ]
 refine' wpAnyH_take (i:=5) (oi:={dst:=some 15,op:=Op.load 42 (Operand.tmp 3),type:=42,pos := "ref.go:59",after:=#[],guard:=none}) (v:=_) rfl (by kernel_rfl) (by kernel_rfl) (by kernel_rfl) (fun _ _ _ h=>h) (yieldsIf_load_mid (by rfl) _ _ rfl _ _ rfl _ _ ?hS ?hu ?hd ?hi) (by assumption) ?rest
 case hS=>intro w hSw;(try dsimp only at hSw);exact hSw.2
 case hu=>exact undNode
 case hd=>rfl
 case hi=>exact hsz
 try simp only [Act.put,List.setIfInBounds_toArray,List.set_cons_zero,List.set_cons_succ]
 refine wpAnyH_ready (rs:=[6]) (by kernel_rfl) (by simp) ?_
 refine AllReadyH.cons (o:={dst:=some 16,op:=Op.buildSlice 23 1 #[(0,Operand.tmp 15)],type:=23,pos := "ref.go:59",after:=#[⟨5,.data⟩],guard:=none}) rfl (fun K hK=>?_) ?_
 ·go_simp
  rw [show (W0.alloc (Obj.cells cs.toArray 42)).drew=Wk from HWK.out.symm]
  refine hK.out _ _ ?_ (fun hHeld=>?_)
  ·exact hS1
  ·clear hK K
   try simp only [Act.put,List.setIfInBounds_toArray,List.set_cons_zero,List.set_cons_succ]
   refine wpAnyH_ready (rs:=[7]) (by kernel_rfl) (by simp) ?_
   refine AllReadyH.cons (o:={dst:=some 17,op:=Op.call {callee:=Callee.builtin Go.Builtin.append,args:=#[Operand.tmp 14,Operand.tmp 16],argTypes:=#[23,23]},type:=23,pos := "ref.go:59",after:=#[⟨4,.data⟩,⟨6,.data⟩],guard:=none}) rfl (fun K hK=>?_) ?_
   ·refine step_append_lies _ (by rfl) _ _ _ (by rfl) base 42 i0 _ 19 216 (by kernel_rfl) hi0 hz0 hz1 hz2 (by rfl) (by decide) _ ns.length (cellsM ms) (by rfl) HRA.out ⟨W0.heap.size,0,none⟩ 1 1 cs (by rfl) hcl1 HN.out h1 (by decide) hmx hby hbs2 _ rfl ?_
    intro g cap w1 ho hg hgH hlt
    have HF:=Lib.hid (And.intro ho (And.intro hg hgH))
    have c3:w1.cell? ⟨r,2,none⟩=some nv:=hg.cell c3b (fun e=>HH.out.r_ne e.symm)
    have f3:w1.frozen? ⟨r,2,none⟩=false:=(World.frozen?_of_block (hg.block r hr2 (fun e=>HH.out.r_ne e.symm))).trans f3b
    clear ho hg hgH hlt
    refine hK.out _ _ ?_ (fun hHeld=>?_)
    ·exact hS2 w1 c3 HF.out.2.1
    ·clear hK K
     try simp only [Act.put,List.setIfInBounds_toArray,List.set_cons_zero,List.set_cons_succ]
     refine wpAnyH_take (i:=8) (oi:={dst:=some 18,op:=Op.nilCheck (Operand.tmp 10),type:=0,pos := "ref.go:59",after:=#[⟨0,.data⟩,⟨0,.phase⟩,⟨1,.phase⟩,⟨2,.phase⟩,⟨3,.phase⟩,⟨4,.phase⟩,⟨5,.phase⟩,⟨6,.phase⟩,⟨7,.phase⟩],guard:=none}) (v := ?v6) rfl (by kernel_rfl) (by kernel_rfl) (by kernel_rfl) (fun _ _ _ h=>h) (Or.inl ⟨by rfl,?hy6⟩) (by assumption) ?rest6
     case hy6 =>
      intro w hSw
      (try dsimp only at hSw)
      go_simp
      try with_reducible rfl
     try simp only [Act.put,List.setIfInBounds_toArray,List.set_cons_zero,List.set_cons_succ]
     refine wpAnyH_take (i:=9) (oi:={dst:=some 19,op:=Op.fieldAddr 81 (Operand.tmp 18) 2,type:=0,pos := "ref.go:59",after:=#[⟨8,.data⟩,⟨0,.phase⟩,⟨1,.phase⟩,⟨2,.phase⟩,⟨3,.phase⟩,⟨4,.phase⟩,⟨5,.phase⟩,⟨6,.phase⟩,⟨7,.phase⟩],guard:=none}) (v := ?v7) rfl (by kernel_rfl) (by kernel_rfl) (by kernel_rfl) (fun _ _ _ h=>h) (Or.inl ⟨by rfl,?hy7⟩) (by assumption) ?rest7
     case hy7 =>
      intro w hSw
      (try dsimp only at hSw)
      go_simp
      try with_reducible rfl
     try simp only [Act.put,List.setIfInBounds_toArray,List.set_cons_zero,List.set_cons_succ]
     refine wpAnyH_done (by kernel_rfl) ?_ _
     refine then_step (fun K hK=>?_)
     go_simp
     refine hK.out _ _ ?_
     clear hK K
     have HE:=Lib.hid (layR_fin HH.out HM.out HMS.out HA.out HBK.out hn (by rw [← HC.out];exact HF.out.1) HF.out.2.1 HF.out.2.2)
     go_wp2_with fail
     go_ret
     exact ⟨_,_,rfl,fun ts' ns' e=>(by cases e;rfl),HE.out⟩
   exact AllReadyH.nil
 exact AllReadyH.nil
theorem lay_r (nd:Nd) (cs:Array Value) (h:RF base r tv T deep st nv W) (hbase:base≤W.heap.size) (hok:∀ ts ns,st=.ok (ts,ns)→ns.length<5000∧∃ m:NodeM,cs=m.cells.toArray∧MOk W base m∧m.node=nd) :
 Calls Tryz.prog 68 #[RP r,.agg cs] W (LayP base r tv T deep st nd nv W):=by
 rcases st with er | ⟨ts,ns⟩
 ·exact lay_bad cs nd h
 ·obtain ⟨hn,m,rfl,hm,rfl⟩:=hok ts ns rfl
  exact lay_ok h hm hn hbase
end
end Go.Proofs.YtnaehhpikhlppaaGreatDoor
