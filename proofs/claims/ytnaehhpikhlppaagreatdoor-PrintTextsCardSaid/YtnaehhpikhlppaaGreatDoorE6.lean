/- Several texts of the proof, joined. -/
import Derived.Test.YtnaehhpikhlppaaGreatDoorE5
import Derived.Test.YtnaehhpikhlppaaGreatDoorE1
import Derived.Lib.ItoaMem
import Derived.Lib.ItoaLen
import Derived.BigQuiet
set_option maxHeartbeats 4000000
set_option maxRecDepth 100000
set_option linter.unusedVariables false
set_option linter.unusedSimpArgs false
namespace Go.Proofs.YtnaehhpikhlppaaGreatDoor.ParS
open LexS
theorem sep_app {l:List (List Tk)} (h:l ≠ []) (x:List Tk):sep (l++[x])=sep l++[sg kw_comma]++x:=by
 cases l with
 | nil=>exact absurd rfl h
 | cons y l=>simp [sep]
theorem many_gives {α:Type} {f:M α} {T:α→List Tk} {Pr:α→Prop} (hf:∀ ts ns x ts1 ns1,f ts ns=.ok (x,ts1,ns1)→ns1=ns∧Pr x∧∃ used,ts=used++ts1∧From used (T x)) :
 ∀ (k:Nat) (acc:List α) (used ts:List Tk) (ns:List Nd) (xs:List α) (ts1:List Tk) (ns1:List Nd),acc ≠ []→(∀ x∈acc,Pr x)→From used (sep (acc.map T))→manyGo f k acc ts ns=.ok (xs,ts1,ns1) →
   ns1=ns∧xs ≠ []∧xs.head?=acc.head?∧(∀ x∈xs,Pr x)∧∃ used2,used++ts=used2++ts1∧From used2 (sep (xs.map T))
 | 0,acc,used,ts,ns,xs,ts1,ns1,hne,hp,hu,h=>by
   cases h
   exact ⟨rfl,hne,rfl,hp,used,rfl,hu⟩
 | k+1,acc,used,ts,ns,xs,ts1,ns1,hne,hp,hu,h=>by
   unfold manyGo at h
   split at h
   ·cases h
    exact ⟨rfl,hne,rfl,hp,used,rfl,hu⟩
   ·rename_i ts2 e
    obtain ⟨t,rfl⟩:=sees_some e
    obtain ⟨x,ts3,ns3,h3,h4⟩:=bind_ok h
    obtain ⟨rfl,px,u3,rfl,f3⟩:=hf _ _ _ _ _ h3
    have:=many_gives hf k (acc++[x]) (used++[t]++u3) ts3 ns3 xs ts1 ns1 (by simp) (fun y hy=>by
     rcases List.mem_append.1 hy with hy | hy
     ·exact hp y hy
     ·rw [List.mem_singleton] at hy
      rw [hy]
      exact px) (by
     rw [List.map_append,List.map_cons,List.map_nil,sep_app (by simpa using hne)]
     exact (hu.app (From.kw t (by decide))).app f3) h4
    obtain ⟨g1,g2,g3,g4,u,g5,g6⟩:=this
    refine ⟨g1,g2,?_,g4,u,?_,g6⟩
    ·rw [g3]
     cases acc with
     | nil=>exact absurd rfl hne
     | cons y l=>rfl
    ·rw [← g5]
     simp
theorem many_all {α:Type} {f:M α} {T:α→List Tk} {Pr:α→Prop} (hf:∀ ts ns x ts1 ns1,f ts ns=.ok (x,ts1,ns1)→ns1=ns∧Pr x∧∃ used,ts=used++ts1∧From used (T x)) {ts:List Tk} {ns:List Nd} {xs:List α} {ts1:List Tk} {ns1:List Nd} (h:many f ts ns=.ok (xs,ts1,ns1)) :
 ns1=ns∧xs ≠ []∧(∃ x ts3,f ts ns=.ok (x,ts3,ns)∧xs.head?=some x)∧(∀ x∈xs,Pr x)∧∃ used,ts=used++ts1∧From used (sep (xs.map T)):=by
 obtain ⟨x,ts3,ns3,h3,h4⟩:=bind_ok h
 obtain ⟨rfl,px,u3,e3,f3⟩:=hf _ _ _ _ _ h3
 obtain ⟨g1,g2,g3,g4,u,g5,g6⟩:=many_gives hf _ [x] u3 ts3 ns3 xs ts1 ns1 (by simp) (fun y hy=>by rw [List.mem_singleton] at hy;rw [hy];exact px) (by simpa [sep] using f3) h4
 exact ⟨g1,g2,⟨x,ts3,h3,g3⟩,g4,u,by rw [e3];exact g5,g6⟩
theorem name_ok {ts:List Tk} {ns:List Nd} {x:Bytes} {ts1:List Tk} {ns1:List Nd} (h:name ts ns=.ok (x,ts1,ns1)):ns1=ns∧True∧∃ used,ts=used++ts1∧From used [wd x]:=by
 obtain ⟨t,ts3,ns3,h3,h4⟩:=bind_ok h
 obtain ⟨rfl,hk,rfl⟩:=take_ok h3
 cases h4
 exact ⟨rfl,trivial,[t],rfl,From.own (norm1 hk).symm⟩
theorem names_ok {ts:List Tk} {ns:List Nd} {l:List Bytes} {ts1:List Tk} {ns1:List Nd} (h:names ts ns=.ok (l,ts1,ns1)):ns1=ns∧l ≠ []∧(∃ t r,ts=t::r∧t.kind=1∧l.head?=some t.s)∧∃ used,ts=used++ts1∧From used (namesT l):=by
 obtain ⟨h1,h2,⟨x,ts3,h3,h4⟩,_,h5⟩:=many_all (f:=name) (T:=fun s=>[wd s]) (Pr:=fun _=>True) (fun _ _ _ _ _ h=>name_ok h) h
 refine ⟨h1,h2,?_,h5⟩
 obtain ⟨t,ts4,ns4,h6,h7⟩:=bind_ok h3
 obtain ⟨rfl,hk,rfl⟩:=take_ok h6
 cases h7
 exact ⟨t,_,rfl,hk,h4⟩
theorem kw_agg {k:Nat} (h1:1≤k) (h2:k≤6):Kw (wd (aggW k)):=by
 have:k=1∨k=2∨k=3∨k=4∨k=5∨k=6:=by omega
 rcases this with rfl | rfl | rfl | rfl | rfl | rfl<;>decide
theorem agg_ok {ts:List Tk} {ns:List Nd} {x:Nat×Bytes} {ts1:List Tk} {ns1:List Nd} (h:agg ts ns=.ok (x,ts1,ns1)):ns1=ns∧AggOk x∧∃ used,ts=used++ts1∧From used (aggT x):=by
 unfold agg at h
 split at h
 ·cases h
 ·rename_i ts2 e
  cases h
  rcases choice_ok _ _ _ _ _ e with h | ⟨_,_,t,rfl⟩
  ·cases h
  ·exact ⟨rfl,.inl rfl,[t],rfl,From.kw t (by decide)⟩
 ·rename_i k ts2 e
  obtain ⟨u,ts3,ns3,h3,h4⟩:=bind_ok h
  obtain ⟨rfl,hk,rfl⟩:=take_ok h3
  cases h4
  rcases choice_ok _ _ _ _ _ e with h | ⟨_,hk6,t,rfl⟩
  ·cases h
  ·have hk6':k+2<1+6:=hk6
   refine ⟨rfl,.inr ⟨Nat.le_add_left _ _,by show k+2≤6;omega⟩,[t]++[u],rfl,?_⟩
   show From ([t]++[u]) (if k+2=1 then _ else _)
   rw [if_neg (by omega)]
   exact (From.kw t (kw_agg (by omega) (by omega))).app (From.own (norm1 hk).symm)
theorem aggs_ok {ts:List Tk} {ns:List Nd} {l:List (Nat×Bytes)} {ts1:List Tk} {ns1:List Nd} (h:aggs ts ns=.ok (l,ts1,ns1)):ns1=ns∧l ≠ []∧(∀ a∈l,AggOk a)∧∃ used,ts=used++ts1∧From used (aggsT l):=by
 obtain ⟨h1,h2,_,h4,h5⟩:=many_all (f:=agg) (T:=aggT) (Pr:=AggOk) (fun _ _ _ _ _ h=>agg_ok h) h
 exact ⟨h1,h2,h4,h5⟩
def timesT (f t:Int):List Tk:=if f=0∧t=1099511627775 then [] else [wd kw_from,nm f,wd kw_to,nm t]
theorem times_ok {ts:List Tk} {ns:List Nd} {x:Int×Int} {ts1:List Tk} {ns1:List Nd} (h:times ts ns=.ok (x,ts1,ns1)):ns1=ns∧∃ used,ts=used++ts1∧From used (timesT x.1 x.2):=by
 unfold times at h
 split at h
 ·rename_i ts2 e
  obtain ⟨t,rfl⟩:=sees_some e
  obtain ⟨f,ts3,ns3,h3,h4⟩:=bind_ok h
  obtain ⟨rfl,hk,rfl⟩:=take_ok h3
  obtain ⟨u,ts5,ns5,h5,h6⟩:=bind_ok h4
  obtain ⟨⟨y,rfl⟩,rfl⟩:=wants_ok h5
  obtain ⟨g,ts7,ns7,h7,h8⟩:=bind_ok h6
  obtain ⟨rfl,hk7,rfl⟩:=take_ok h7
  cases h8
  refine ⟨rfl,[t]++[f]++[y]++[g],rfl,?_⟩
  have hall:From ([t]++[f]++[y]++[g]) ([wd kw_from]++[nm f.n]++[wd kw_to]++[nm g.n]):=(((From.kw t (by decide)).app (From.own (norm2 hk).symm)).app (From.kw y (by decide))).app (From.own (norm2 hk7).symm)
  unfold timesT
  split
  ·exact hall.less (by simp) (fun x hx=>by cases hx)
  ·exact hall
 ·cases h
  refine ⟨rfl,[],rfl,?_⟩
  unfold timesT
  rw [if_pos ⟨rfl,rfl⟩]
  exact From.nil
def GivesQ (p:M Nat) (d:Nat):Prop := ∀ ts ns a ts1 ns1,p ts ns=.ok (a,ts1,ns1)→∃ (q:Qr) (used:List Tk),ts=used++ts1∧ns1=ns++q.flat ns.length∧a=ns.length+q.len-1∧q.Ok∧q.deep≤d∧From used q.tok
def GivesI (p:M Nat) (d:Nat):Prop := ∀ ts ns a ts1 ns1,p ts ns=.ok (a,ts1,ns1)→∃ (q:Qr) (used:List Tk),ts=used++ts1∧ns1=ns++q.flat ns.length∧a=ns.length+q.len-1∧q.Ok∧q.deep+1≤d∧From used (q.tok++[sg kw_shut])
theorem bar_step {used u2 qt X:List Tk} {k:Nat} (t s:Tk) (h1:2≤k) (h2:k≤8) (hu:From used qt) (hx:From u2 X):From (used++[t]++([s]++u2)) (qt++([sg kw_bar]++([wd (stepW k)]++X))):=by
 have hk:Kw (wd (stepW k)):=by
  have:k=2∨k=3∨k=4∨k=5∨k=6∨k=7∨k=8:=by omega
  rcases this with rfl | rfl | rfl | rfl | rfl | rfl | rfl<;>decide
 rw [List.append_assoc]
 exact hu.app ((From.kw t (by decide)).app ((From.kw s hk).app hx))
theorem step_gives {inner cond:M Nat} {d:Nat} (hi:GivesI inner d) (hc:GivesC cond 1 d) {q:Qr} {ns:List Nd} {used ts:List Tk} {a:Nat} {ts2:List Tk} {ns2:List Nd} (t:Tk) (ok:q.Ok) (hd:q.deep≤d) (hu:From used q.tok)
 (h:stepOf inner cond (ns.length+q.len-1) ts (ns++q.flat ns.length)=.ok (a,ts2,ns2)) :
 ∃ (q2:Qr) (u2:List Tk),ts=u2++ts2∧ns2=ns++q2.flat ns.length∧a=ns.length+q2.len-1∧q2.Ok∧q2.deep≤d∧From (used++[t]++u2) q2.tok:=by
 have hp:=q.pos
 have e1:(ns++q.flat ns.length).length=ns.length+q.len:=by rw [List.length_append,q.flat_len]
 unfold stepOf at h
 split at h
 ·rename_i ts1 e
  rcases choice_ok _ _ _ _ _ e with h0 | ⟨_,_,s,rfl⟩
  ·cases h0
  obtain ⟨b,ts3,ns3,h3,h4⟩:=bind_ok h
  obtain ⟨c,u,rfl,rfl,rfl,okc,hdc,hfc⟩:=hc _ _ _ _ _ h3
  cases h4
  rw [c.tok1] at hfc
  rw [c.deep1] at hdc
  have hq:=c.pos
  refine ⟨.where_ q c,[s]++u,rfl,?_,?_,⟨ok,okc⟩,?_,?_⟩
  ·rw [e1];simp only [Qr.flat,List.append_assoc]
  ·rw [List.length_append,e1,c.flat_len];show _=ns.length+(q.len+c.len+1)-1;omega
  ·show max q.deep (c.deep 0)≤d;rw [c.deep0];omega
  ·have:=bar_step (k:=2) t s (by decide) (by decide) hu (show From u (c.tok 0) by rw [c.tok0];exact hfc)
   simpa [Qr.tok] using this
 ·rename_i ts1 e
  rcases choice_ok _ _ _ _ _ e with h0 | ⟨_,_,s,rfl⟩
  ·cases h0
  obtain ⟨l,ts3,ns3,h3,h4⟩:=bind_ok h
  obtain ⟨rfl,hne,_,u,rfl,hf⟩:=names_ok h3
  cases h4
  refine ⟨.keep q l,[s]++u,rfl,by simp only [Qr.flat,List.append_assoc],by rw [e1];show _=ns.length+(q.len+1)-1;omega,⟨ok,hne⟩,hd,?_⟩
  have:=bar_step (k:=3) t s (by decide) (by decide) hu hf
  simpa [Qr.tok] using this
 ·rename_i ts1 e
  rcases choice_ok _ _ _ _ _ e with h0 | ⟨_,_,s,rfl⟩
  ·cases h0
  obtain ⟨x,ts3,ns3,h3,h4⟩:=bind_ok h
  obtain ⟨rfl,hk,rfl⟩:=take_ok h3
  cases h4
  refine ⟨.align q x.n,[s]++[x],rfl,by simp only [Qr.flat,List.append_assoc],by rw [e1];show _=ns.length+(q.len+1)-1;omega,ok,hd,?_⟩
  have:=bar_step (k:=4) t s (by decide) (by decide) hu (From.own (norm2 hk).symm)
  simpa [Qr.tok] using this
 ·rename_i ts1 e
  rcases choice_ok _ _ _ _ _ e with h0 | ⟨_,_,s,rfl⟩
  ·cases h0
  obtain ⟨l,ts3,ns3,h3,h4⟩:=bind_ok h
  have hl:ns3=ns++q.flat ns.length∧(∀ x,l.head?=some x→x≠kw_colon)∧∃ u,ts1=u++ts3∧From u (namesT l):=by
   split at h3
   ·cases h3
    exact ⟨rfl,fun x hx=>(by cases hx),[],rfl,From.nil⟩
   ·rename_i hno
    obtain ⟨g1,g2,⟨y,r,rfl,hk,hh⟩,g3⟩:=names_ok h3
    refine ⟨g1,fun x hx=>?_,g3⟩
    rw [hh] at hx
    injection hx with hx
    rintro rfl
    rw [sees_cons,show isW kw_colon y=true by simp [isW,hk,hx]] at hno
    cases hno
  obtain ⟨rfl,hcol,u,rfl,hf⟩:=hl
  obtain ⟨w,ts5,ns5,h5,h6⟩:=bind_ok h4
  obtain ⟨⟨y,rfl⟩,rfl⟩:=wants_ok h5
  obtain ⟨g,ts7,ns7,h7,h8⟩:=bind_ok h6
  obtain ⟨rfl,gne,gok,u2,rfl,hf2⟩:=aggs_ok h7
  cases h8
  refine ⟨.group q l g,[s]++(u++[y]++u2),by simp,by simp only [Qr.flat,List.append_assoc],by rw [e1];show _=ns.length+(q.len+1)-1;omega,⟨ok,hcol,gne,gok⟩,hd,?_⟩
  have:=bar_step (k:=5) t s (by decide) (by decide) hu ((hf.app (From.kw y (by decide:Kw (sg kw_colon)))).app hf2)
  simpa [Qr.tok] using this
 ·rename_i ts1 e
  rcases choice_ok _ _ _ _ _ e with h0 | ⟨_,_,s,rfl⟩
  ·cases h0
  obtain ⟨x,ts3,ns3,h3,h4⟩:=bind_ok h
  obtain ⟨rfl,hk,rfl⟩:=take_ok h3
  obtain ⟨w,ts5,ns5,h5,h6⟩:=bind_ok h4
  obtain ⟨⟨y,rfl⟩,rfl⟩:=wants_ok h5
  obtain ⟨z,ts7,ns7,h7,h8⟩:=bind_ok h6
  obtain ⟨rfl,hk7,rfl⟩:=take_ok h7
  cases h8
  refine ⟨.top q x.n z.s,[s]++([x]++[y]++[z]),rfl,by simp only [Qr.flat,List.append_assoc],by rw [e1];show _=ns.length+(q.len+1)-1;omega,ok,hd,?_⟩
  have:=bar_step (k:=6) t s (by decide) (by decide) hu (((From.own (norm2 hk).symm).app (From.kw y (by decide:Kw (wd kw_by)))).app (From.own (norm1 hk7).symm))
  simpa [Qr.tok] using this
 ·rename_i ts1 e
  rcases choice_ok _ _ _ _ _ e with h0 | ⟨_,_,s,rfl⟩
  ·cases h0
  obtain ⟨w,ts5,ns5,h5,h6⟩:=bind_ok h
  obtain ⟨⟨y,rfl⟩,rfl⟩:=wants_ok h5
  obtain ⟨b,ts3,ns3,h3,h4⟩:=bind_ok h6
  obtain ⟨r,u,rfl,rfl,rfl,okr,hdr,hfr⟩:=hi _ _ _ _ _ h3
  cases h4
  have hq:=r.pos
  refine ⟨.join q r,[s]++([y]++u),rfl,?_,?_,⟨ok,okr⟩,?_,?_⟩
  ·rw [e1];simp only [Qr.flat,List.append_assoc]
  ·rw [List.length_append,e1,r.flat_len];show _=ns.length+(q.len+r.len+1)-1;omega
  ·show max q.deep (r.deep+1)≤d;omega
  ·have:=bar_step (k:=7) t s (by decide) (by decide) hu ((From.kw y (by decide:Kw (sg kw_open))).app hfr)
   simpa [Qr.tok] using this
 ·rename_i ts1 e
  rcases choice_ok _ _ _ _ _ e with h0 | ⟨_,_,s,rfl⟩
  ·cases h0
  obtain ⟨w,ts5,ns5,h5,h6⟩:=bind_ok h
  obtain ⟨⟨y,rfl⟩,rfl⟩:=wants_ok h5
  obtain ⟨b,ts3,ns3,h3,h4⟩:=bind_ok h6
  obtain ⟨r,u,rfl,rfl,rfl,okr,hdr,hfr⟩:=hi _ _ _ _ _ h3
  cases h4
  have hq:=r.pos
  refine ⟨.union q r,[s]++([y]++u),rfl,?_,?_,⟨ok,okr⟩,?_,?_⟩
  ·rw [e1];simp only [Qr.flat,List.append_assoc]
  ·rw [List.length_append,e1,r.flat_len];show _=ns.length+(q.len+r.len+1)-1;omega
  ·show max q.deep (r.deep+1)≤d;omega
  ·have:=bar_step (k:=8) t s (by decide) (by decide) hu ((From.kw y (by decide:Kw (sg kw_open))).app hfr)
   simpa [Qr.tok] using this
 ·cases h
theorem steps_give {inner cond:M Nat} {d:Nat} (hi:GivesI inner d) (hc:GivesC cond 1 d):∀ (k:Nat) (q:Qr) (ns:List Nd) (used:List Tk),q.Ok→q.deep≤d→From used q.tok→∀ (ts:List Tk) (a:Nat) (ts2:List Tk) (ns2:List Nd),
 stepsGo (stepOf inner cond) k (ns.length+q.len-1) ts (ns++q.flat ns.length)=.ok (a,ts2,ns2)→∃ (q2:Qr) (u2:List Tk),used++ts=u2++ts2∧ns2=ns++q2.flat ns.length∧a=ns.length+q2.len-1∧q2.Ok∧q2.deep≤d∧From u2 q2.tok
 | 0,q,ns,used,ok,hd,hu,ts,a,ts2,ns2,h=>by
   cases h
   exact ⟨q,used,rfl,rfl,rfl,ok,hd,hu⟩
 | k+1,q,ns,used,ok,hd,hu,ts,a,ts2,ns2,h=>by
   unfold stepsGo at h
   split at h
   ·cases h
    exact ⟨q,used,rfl,rfl,rfl,ok,hd,hu⟩
   ·rename_i ts1 e
    obtain ⟨t,rfl⟩:=sees_some e
    obtain ⟨b,ts3,ns3,h3,h4⟩:=bind_ok h
    obtain ⟨q2,u2,rfl,rfl,rfl,ok2,hd2,hf2⟩:=step_gives hi hc t ok hd hu h3
    obtain ⟨q3,u3,g1,g2⟩:=steps_give hi hc k q2 ns _ ok2 hd2 hf2 _ _ _ _ h4
    exact ⟨q3,u3,by rw [← g1];simp,g2⟩
theorem gives_queryOf {inner cond:M Nat} {d:Nat} (hi:GivesI inner d) (hc:GivesC cond 1 d):GivesQ (queryOf (stepOf inner cond)) d:=by
 intro ts ns a ts2 ns2 h
 obtain ⟨w,ts3,ns3,h3,h4⟩:=bind_ok h
 obtain ⟨⟨x,rfl⟩,rfl⟩:=wants_ok h3
 obtain ⟨t,ts5,ns5,h5,h6⟩:=bind_ok h4
 obtain ⟨rfl,hk,rfl⟩:=take_ok h5
 obtain ⟨y,ts7,ns7,h7,h8⟩:=bind_ok h6
 obtain ⟨rfl,u,rfl,hf⟩:=times_ok h7
 obtain ⟨b,ts9,ns9,h9,h10⟩:=bind_ok h8
 cases h9
 have h0:From ([x]++[t]++u) (Qr.tok (.fetch t.s y.1 y.2)):=((From.kw x (by decide:Kw (wd kw_fetch))).app (From.own (norm1 hk).symm)).app hf
 obtain ⟨q3,u3,g1,g2⟩:=steps_give hi hc fuel (.fetch t.s y.1 y.2) ns7 ([x]++[t]++u) trivial (Nat.zero_le _) h0 _ _ _ _ h10
 exact ⟨q3,u3,by rw [← g1];simp,g2⟩
theorem gives_inner:∀ d,GivesI (pInner d) d
 | 0=>fun ts ns a ts1 ns1 h=>by cases h
 | d+1=>by
   intro ts ns a ts2 ns2 h
   obtain ⟨b,ts1,ns1,h1,h2⟩:=bind_ok h
   obtain ⟨q,u,rfl,rfl,rfl,ok,hd,hf⟩:=gives_queryOf (gives_inner d) (gives_pCond d) _ _ _ _ _ h1
   obtain ⟨w,ts3,ns3,h3,h4⟩:=bind_ok h2
   obtain ⟨⟨x,rfl⟩,rfl⟩:=wants_ok h3
   cases h4
   exact ⟨q,u++[x],by simp,rfl,rfl,ok,by omega,hf.app (From.kw x (by decide))⟩
theorem parse_gives {l:List Tok} {ns:List Nd} {n:Nat} (h:parseS l=(ns,n,0)):∃ q:Qr,ns=q.flat 0∧q.Ok∧q.deep≤16∧q.len≤128∧q.tok.length≤1024∧∀ t∈q.tok,Kw t∨∃ u∈l,t=norm (tk u):=by
 unfold parseS parseAll at h
 split at h
 ·cases h
 ·rename_i hl
  split at h
  ·rename_i k e he
   cases e<;>cases h
  ·rename_i a ts ns1 he
   split at h
   ·cases h
   ·rename_i hts
    split at h
    ·cases h
    ·rename_i hns
     cases h
     have hts':ts=[]:=by
      rcases ts with _ | ⟨t,ts⟩
      ·rfl
      ·exact absurd (by simp) hts
     subst hts'
     obtain ⟨q,u,e1,e2,_,ok,hd,hf⟩:=gives_queryOf (gives_inner 16) (gives_pCond 16) _ _ _ _ _ he
     rw [List.append_nil] at e1
     refine ⟨q,by simpa using e2,ok,hd,?_,?_,fun t ht=>?_⟩
     ·rw [e2,List.nil_append,q.flat_len] at hns
      omega
     ·have:=hf.1
      rw [← e1] at this
      omega
     ·rcases hf.2 t ht with h1 | ⟨x,hx,e⟩
      ·exact .inl h1
      ·rw [← e1] at hx
       obtain ⟨y,hy,rfl⟩:=List.mem_map.1 hx
       exact .inr ⟨y,hy,e⟩
end Go.Proofs.YtnaehhpikhlppaaGreatDoor.ParS

namespace Go.Proofs.YtnaehhpikhlppaaGreatDoor.LexS
theorem while_ahead (p:UInt8→Bool) (l:Bytes) (b:UInt8) (t:Bytes) (h:p b=false):while_ p (l++b::t)=while_ p l:=by
 induction l with
 | nil=>simp [while_,h]
 | cons c r ih =>
   show (if p c then while_ p (r++b::t)+1 else 0)=if p c then while_ p r+1 else 0
   rw [ih]
theorem take_ahead (l t:Bytes) (n:Nat) (h:n≤l.length):(l++t).take n=l.take n:=List.take_append_of_le_length h
theorem textFrom_ahead:∀ (l acc:Bytes) (i:Nat) (t:Bytes) (y:Bytes×Nat),textFrom acc i l=some y→textFrom acc i (l++t)=some y:=by
 intro l
 induction hm:l.length using Nat.strongRecOn generalizing l with
 | _ m ih =>
   intro acc i t y h
   match l,hm,h with
   | [],_,h=>simp [textFrom] at h
   | c::r,hm,h =>
     simp only [List.length_cons] at hm
     rw [List.cons_append]
     unfold textFrom at h ⊢
     split at h
     ·rename_i h1;rw [if_pos h1];exact h
     ·rename_i h1
      rw [if_neg h1]
      split at h
      ·rename_i h2
       rw [if_pos h2]
       match r,hm,h with
       | [],_,h=>simp at h
       | d::r',hm,h =>
         dsimp only [List.cons_append] at h ⊢
         simp only [List.length_cons] at hm
         split at h
         ·rename_i h3;rw [if_pos h3];exact ih r'.length (by omega) r' rfl _ _ _ _ h
         ·cases h
      ·rename_i h2
       rw [if_neg h2]
       exact ih r.length (by omega) r rfl _ _ _ _ h
def TokEnd (b:UInt8):Prop:=innerB b=false∧digitB b=false∧b.toNat≠61
theorem one_ends (l:Bytes) (b:UInt8) (t:Bytes) (hb:TokEnd b) (hn:(oneS l).2≠0):oneS (l++b::t)=oneS l:=by
 obtain ⟨i1,i2,i3⟩:=hb
 match l,hn with
 | [],hn=>exact absurd rfl hn
 | c::r,hn =>
   have hw:=while_ahead innerB (c::r) b t i1
   have hwl:=while_le innerB (c::r)
   have hd1:(r++b::t).head?.map digitB=some true↔r.head?.map digitB=some true:=by
    cases r<;>simp [i2]
   have hN:numLen (c::(r++b::t))=numLen (c::r):=by
    unfold numLen
    have e:(c::(r++b::t)).drop 1=r++b::t:=rfl
    have e2:(c::r).drop 1=r:=rfl
    rw [e,e2,while_ahead digitB r b t i2,show c::(r++b::t)=(c::r)++b::t from rfl,while_ahead digitB (c::r) b t i2]
    rfl
   have hS:signLen (c::(r++b::t))=signLen (c::r):=by
    unfold signLen
    cases r with
    | nil=>simp [i3]
    | cons d r=>rfl
   have hnum:∀ y,numberS (c::r)=some y→numberS (c::(r++b::t))=some y:=by
    intro y h
    have hle:=numLen_le (c::r)
    have htk:(c::(r++b::t)).take (numLen (c::r))=(c::r).take (numLen (c::r)):=take_ahead (c::r) (b::t) _ hle
    unfold numberS at h ⊢
    rw [hN,htk]
    split at h
    ·rename_i v hv
     split at h
     ·rename_i h2
      rw [if_pos (And.intro h2.1 ?_)]
      ·first | exact h | skip
      ·rcases Nat.lt_or_ge (numLen (c::r)) (c::r).length with hl | hl
       ·rw [show c::(r++b::t)=(c::r)++b::t from rfl,List.getElem?_append_left hl]
        exact h2.2
       ·rw [show c::(r++b::t)=(c::r)++b::t from rfl,List.getElem?_append_right hl,show numLen (c::r)-(c::r).length=0 by omega]
        simp [i1]
     ·cases h
    ·cases h
   have htx:∀ y,textS (c::r)=some y→textS (c::(r++b::t))=some y:=by
    intro y h
    unfold textS at h ⊢
    rw [show (c::r).drop 1=r from rfl] at h
    rw [show (c::(r++b::t)).drop 1=r++b::t from rfl]
    cases hq:textFrom [] 1 r with
    | none=>rw [hq] at h;cases h
    | some z=>rw [hq] at h;rw [textFrom_ahead r [] 1 (b::t) z hq];exact h
   rw [List.cons_append] at hw ⊢
   unfold oneS at hn ⊢
   dsimp only at hn ⊢
   rw [hw,hS,take_ahead (c::r) (b::t) _ hwl |> fun e=>(show (c::(r++b::t)).take _=_ from e),take_ahead (c::r) (b::t) _ (signLen_le (c::r)).1 |> fun e=>(show (c::(r++b::t)).take _=_ from e)]
   by_cases h1:letterB c=true
   ·rw [if_pos h1,if_pos h1]
   ·rw [if_neg h1] at hn
    rw [if_neg h1,if_neg h1]
    by_cases h2:c.toNat=34
    ·rw [if_pos h2] at hn
     rw [if_pos h2,if_pos h2]
     cases hq:textS (c::r) with
     | none=>rw [hq] at hn;exact absurd rfl hn
     | some y=>rw [htx y hq]
    ·rw [if_neg h2] at hn
     rw [if_neg h2,if_neg h2]
     by_cases h3:digitB c=true∨(c.toNat=45∧r.head?.map digitB=some true)
     ·rw [if_pos h3] at hn
      rw [if_pos h3,if_pos (h3.imp_right fun h=>⟨h.1,hd1.2 h.2⟩)]
      cases hq:numberS (c::r) with
      | none=>rw [hq] at hn;exact absurd rfl hn
      | some y=>rw [hnum y hq]
     ·rw [if_neg h3,if_neg (fun h=>h3 (h.imp_right fun h=>⟨h.1,hd1.1 h.2⟩))]
end Go.Proofs.YtnaehhpikhlppaaGreatDoor.LexS

namespace Go.Proofs.YtnaehhpikhlppaaGreatDoor.LexS
open Go.Lib (parseUint10 parseMag atoiAll decDigits itoa)
def dv (acc:Nat) (l:Bytes):Nat:=l.foldl (fun a c=>10*a+(c.toNat-48)) acc
theorem dv_nil (acc:Nat):dv acc []=acc:=rfl
theorem dv_cons (acc:Nat) (c:UInt8) (r:Bytes):dv acc (c::r)=dv (10*acc+(c.toNat-48)) r:=by unfold dv;rw [List.foldl_cons]
def AllD (l:Bytes):Prop := ∀ c∈l,48≤c.toNat∧c.toNat≤57
theorem dv_append (acc:Nat) (l r:Bytes):dv acc (l++r)=dv (dv acc l) r:=by unfold dv;rw [List.foldl_append]
theorem dv_ge (acc:Nat) (l:Bytes):acc≤dv acc l:=by
 induction l generalizing acc with
 | nil=>exact Nat.le_refl _
 | cons c l ih=>have:=ih (10*acc+(c.toNat-48));rw [dv_cons];omega
theorem pu_cons (acc:Nat) (c:UInt8) (r:Bytes):parseUint10 acc (c::r)=if 48≤c.toNat∧c.toNat≤57 then
 (if 1844674407370955162≤acc then .range
 else if 18446744073709551616≤acc*10+(c.toNat-48) then .range
 else parseUint10 (acc*10+(c.toNat-48)) r)
 else .syntax:=by simp only [parseUint10]
theorem parse_digits (l:Bytes) (hl:AllD l):∀ acc,acc<18446744073709551616→parseUint10 acc l=if dv acc l<18446744073709551616 then .ok (dv acc l) else .range:=by
 induction l with
 | nil=>intro acc ha;rw [dv_nil,if_pos ha];rfl
 | cons c l ih =>
   intro acc ha
   have hc:=hl c (by simp)
   have hr:AllD l:=fun x hx=>hl x (by simp [hx])
   have hg:=dv_ge (10*acc+(c.toNat-48)) l
   rw [pu_cons,dv_cons,if_pos hc]
   generalize hD:dv (10*acc+(c.toNat-48)) l=D at *
   by_cases h1:1844674407370955162≤acc
   ·rw [if_pos h1,if_neg (by omega)]
   ·rw [if_neg h1]
    by_cases h2:18446744073709551616≤acc*10+(c.toNat-48)
    ·rw [if_pos h2,if_neg (by omega)]
    ·rw [if_neg h2,show acc*10+(c.toNat-48)=10*acc+(c.toNat-48) by omega,ih hr _ (by omega),hD]
theorem mag_digits {l:Bytes} (hl:AllD l) (h0:l ≠ []):parseMag l=if dv 0 l<18446744073709551616 then .ok (dv 0 l) else .range:=by
 unfold parseMag
 rw [if_neg h0,parse_digits l hl 0 (by omega)]
theorem decDigits_lt {u:Nat} (h:u<10):decDigits u=[UInt8.ofNat (48+u)]:=by rw [decDigits,dif_pos h]
theorem decDigits_ge {u:Nat} (h:¬ u<10):decDigits u=decDigits (u / 10)++[UInt8.ofNat (48+u % 10)]:=by rw [decDigits,dif_neg h]
theorem byte_of {u:Nat} (h:u<10):(UInt8.ofNat (48+u)).toNat=48+u:=by
 rw [UInt8.toNat_ofNat'];omega
theorem decDigits_ne (u:Nat):decDigits u ≠ []:=by
 by_cases h:u<10
 ·rw [decDigits_lt h];simp
 ·rw [decDigits_ge h];simp
theorem decDigits_all:∀ u,AllD (decDigits u):=by
 intro u
 induction u using Nat.strongRecOn with
 | _ u ih =>
   by_cases h:u<10
   ·rw [decDigits_lt h]
    intro c hc
    simp only [List.mem_singleton] at hc
    subst hc
    rw [byte_of h];omega
   ·rw [decDigits_ge h]
    intro c hc
    rcases List.mem_append.1 hc with hc | hc
    ·exact ih (u / 10) (by omega) c hc
    ·simp only [List.mem_singleton] at hc
     subst hc
     rw [byte_of (Nat.mod_lt _ (by omega))];omega
theorem dv_decDigits:∀ u,dv 0 (decDigits u)=u:=by
 intro u
 induction u using Nat.strongRecOn with
 | _ u ih =>
   by_cases h:u<10
   ·rw [decDigits_lt h]
    rw [dv_cons,dv_nil,byte_of h];omega
   ·rw [decDigits_ge h,dv_append,ih (u / 10) (by omega)]
    rw [dv_cons,dv_nil,byte_of (Nat.mod_lt u (show 0<10 by omega))];omega
def Canon (l:Bytes):Prop:=AllD l∧l ≠ []∧(l.length=1∨l.head?.map (·.toNat)≠some 48)
theorem dv_pos {l:Bytes} (hl:AllD l) (h0:l ≠ []) (hh:l.head?.map (·.toNat)≠some 48):1≤dv 0 l:=by
 match l with
 | []=>exact absurd rfl h0
 | c::r =>
   have hc:=hl c (by simp)
   have:c.toNat≠48:=fun e=>hh (by simp [e])
   have:=dv_ge (10*0+(c.toNat-48)) r
   rw [dv_cons]
   omega
theorem canon_unique:∀ (n:Nat) (l:Bytes),l.length=n→Canon l→decDigits (dv 0 l)=l:=by
 intro n
 induction n with
 | zero=>intro l hl h;exact absurd (List.length_eq_zero_iff.1 hl) h.2.1
 | succ n ih =>
   intro l hl ⟨ha,h0,hc⟩
   obtain ⟨l',c,rfl⟩:∃ l' c,l=l'++[c]:=⟨l.dropLast,l.getLast h0,(List.dropLast_concat_getLast h0).symm⟩
   have hcd:=ha c (by simp)
   have hb:UInt8.ofNat c.toNat=c:=UInt8.ofNat_toNat
   rcases Nat.eq_zero_or_pos n with hn | hn
   ·have:l'=[]:=by
     apply List.length_eq_zero_iff.1
     simp at hl;omega
    subst this
    rw [List.nil_append,dv_cons,dv_nil]
    rw [decDigits_lt (by omega),show 48+(10*0+(c.toNat-48))=c.toNat by omega,hb]
   ·have hl':l'.length=n:=by simp at hl;omega
    have hne:l' ≠ []:=fun e=>by simp [e] at hl';omega
    have hh:(l'++[c]).head?.map (·.toNat)≠some 48:=by
     rcases hc with h1 | h1
     ·simp at h1;exact absurd h1 hne
     ·exact h1
    have hh':l'.head?.map (·.toNat)≠some 48:=by
     obtain ⟨d,r,rfl⟩:=List.exists_cons_of_ne_nil hne
     simpa using hh
    have ha':AllD l':=fun x hx=>ha x (by simp [hx])
    have hv:=dv_pos ha' hne hh'
    rw [dv_append,dv_cons,dv_nil]
    rw [decDigits_ge (by omega),show (10*dv 0 l'+(c.toNat-48)) / 10=dv 0 l' by omega,ih l' hl' ⟨ha',hne,.inr hh'⟩,
     show 48+(10*dv 0 l'+(c.toNat-48)) % 10=c.toNat by omega,hb]
theorem decDigits_canon:∀ u,Canon (decDigits u):=by
 intro u
 refine ⟨decDigits_all u,decDigits_ne u,?_⟩
 induction u using Nat.strongRecOn with
 | _ u ih =>
   by_cases h:u<10
   ·rw [decDigits_lt h];simp
   ·right
    rw [decDigits_ge h]
    by_cases h2:u / 10<10
    ·rw [decDigits_lt h2]
     simp only [List.cons_append,List.head?_cons,Option.map_some]
     rw [byte_of h2]
     intro e
     injection e with e
     omega
    ·have:=ih (u / 10) (by omega)
     rcases this with h1 | h1
     ·have hd:=decDigits_ge h2
      rw [hd,List.length_append] at h1
      have:=List.length_pos_iff.2 (decDigits_ne (u / 10 / 10))
      simp only [List.length_cons,List.length_nil] at h1
      omega
     ·have hne:=decDigits_ne (u / 10)
      obtain ⟨d,r,hd⟩:=List.exists_cons_of_ne_nil hne
      rw [hd] at h1 ⊢
      simpa using h1
def SmallEnough (neg:Bool) (u:Nat):Prop:=if neg then u≤9223372036854775808 else u<9223372036854775808
instance (neg:Bool) (u:Nat):Decidable (SmallEnough neg u):=by unfold SmallEnough;infer_instance
theorem number_plain {l:Bytes} (hl:AllD l) (h0:l ≠ []) :
 (∃ v,atoiAll l=.ok v∧itoa v=l)↔(Canon l∧SmallEnough false (dv 0 l)):=by
 match l,h0 with
 | c::r,_ =>
   have hc:=hl c (by simp)
   have e1:¬ (c.toNat=43∨c.toNat=45):=by omega
   have e2:¬ (c.toNat=45):=by omega
   unfold atoiAll
   simp only [if_neg e1,mag_digits hl (by simp)]
   generalize hL:c::r=L at *
   have hne:L ≠ []:=by rw [← hL];simp
   unfold SmallEnough
   simp only [Bool.false_eq_true,if_false]
   by_cases h1:dv 0 L<18446744073709551616
   ·simp only [if_pos h1]
    by_cases h2:9223372036854775808≤dv 0 L
    ·rw [if_pos ⟨e2,h2⟩]
     constructor
     ·rintro ⟨v,h,_⟩;cases h
     ·rintro ⟨_,h⟩;omega
    ·rw [if_neg (fun h=>h2 h.2),if_neg (fun h=>e2 h.1),if_neg e2]
     constructor
     ·rintro ⟨v,h,hi⟩
      injection h with h
      subst h
      unfold itoa at hi
      rw [if_neg (by omega),Int.toNat_natCast] at hi
      refine ⟨?_,by omega⟩
      rw [← hi]
      exact decDigits_canon _
     ·rintro ⟨hcn,_⟩
      refine ⟨_,rfl,?_⟩
      unfold itoa
      rw [if_neg (by omega),Int.toNat_natCast]
      exact canon_unique _ L rfl hcn
   ·simp only [if_neg h1]
    constructor
    ·rintro ⟨v,h,_⟩;cases h
    ·rintro ⟨_,h⟩;omega
theorem number_signed {c:UInt8} (hc:c.toNat=45) {l:Bytes} (hl:AllD l) (h0:l ≠ []) :
 (∃ v,atoiAll (c::l)=.ok v∧itoa v=c::l)↔(Canon l∧dv 0 l≠0∧SmallEnough true (dv 0 l)):=by
 unfold atoiAll
 simp only [hc,or_true,if_true,mag_digits hl h0]
 have hcb:(45:UInt8)=c:=by rw [← UInt8.ofNat_toNat (x:=c),hc];rfl
 unfold SmallEnough
 simp only [if_true]
 by_cases h1:dv 0 l<18446744073709551616
 ·simp only [if_pos h1]
  simp only [not_true,false_and,if_false,true_and]
  by_cases h2:9223372036854775808<dv 0 l
  ·rw [if_pos h2]
   constructor
   ·rintro ⟨v,h,_⟩;cases h
   ·rintro ⟨_,_,h⟩;omega
  ·rw [if_neg h2]
   constructor
   ·rintro ⟨v,h,hi⟩
    injection h with h
    subst h
    unfold itoa at hi
    by_cases hz:dv 0 l=0
    ·rw [if_neg (by omega)] at hi
     have:=decDigits_all ((-(dv 0 l:Int)).toNat) c (by rw [hi];simp)
     omega
    ·rw [if_pos (by omega)] at hi
     injection hi with _ hi
     refine ⟨?_,hz,by omega⟩
     rw [← hi]
     exact decDigits_canon _
   ·rintro ⟨hcn,hz,_⟩
    refine ⟨_,rfl,?_⟩
    unfold itoa
    rw [if_pos (by omega),hcb]
    congr 1
    rw [show (-(dv 0 l:Int)).natAbs=dv 0 l by omega]
    exact canon_unique _ l rfl hcn
 ·simp only [if_neg h1]
  constructor
  ·rintro ⟨v,h,_⟩;cases h
  ·rintro ⟨_,_,h⟩;omega
theorem atoi_plain {l:Bytes} (hl:AllD l) (h0:l ≠ []) (hs:SmallEnough false (dv 0 l)):atoiAll l=.ok (dv 0 l:Nat):=by
 match l,h0 with
 | c::r,_ =>
   have hc:=hl c (by simp)
   have e1:¬ (c.toNat=43∨c.toNat=45):=by omega
   have e2:¬ (c.toNat=45):=by omega
   unfold SmallEnough at hs
   simp only [Bool.false_eq_true,if_false] at hs
   unfold atoiAll
   simp only [if_neg e1,mag_digits hl (by simp)]
   rw [if_pos (by omega)]
   simp only []
   rw [if_neg (fun h=>by omega),if_neg (fun h=>e2 h.1),if_neg e2]
theorem atoi_signed {c:UInt8} (hc:c.toNat=45) {l:Bytes} (hl:AllD l) (h0:l ≠ []) (hs:SmallEnough true (dv 0 l)):atoiAll (c::l)=.ok (-(dv 0 l:Nat)):=by
 unfold SmallEnough at hs
 simp only [if_true] at hs
 unfold atoiAll
 simp only [hc,or_true,if_true,mag_digits hl h0]
 rw [if_pos (by omega)]
 simp only [not_true,false_and,if_false,true_and]
 rw [if_neg (by omega)]
end Go.Proofs.YtnaehhpikhlppaaGreatDoor.LexS

namespace Go.Proofs.YtnaehhpikhlppaaGreatDoor.LexS
open Go.Lib (parseUint10 parseMag atoiAll decDigits itoa)
theorem while_all (D:Bytes) (hD:AllD D) (t:Bytes) (ht:t.head?.map digitB≠some true):while_ digitB (D++t)=D.length:=by
 induction D with
 | nil =>
   cases t with
   | nil=>rfl
   | cons c r =>
     have hc:digitB c=false:=by simpa using ht
     simp [while_,hc]
 | cons c r ih =>
   have hc:=hD c (by simp)
   have hd:digitB c=true:=by simp [digitB,hc.1,hc.2]
   show (if digitB c then while_ digitB (r++t)+1 else 0)=r.length+1
   rw [if_pos hd,ih (fun x hx=>hD x (by simp [hx]))]
theorem digit_not_letter {c:UInt8} (h:48≤c.toNat∧c.toNat≤57):letterB c=false∧c.toNat≠34∧digitB c=true∧blankB c=false∧c.toNat≠45:=by
 refine ⟨?_,by omega,by simp [digitB,h.1,h.2],?_,by omega⟩
 ·have:¬ (97≤c.toNat):=by omega
  simp [letterB,this]
 ·simp [blankB];omega
theorem one_itoa (n:Int) (h0 : -9223372036854775808≤n) (h1:n≤9223372036854775807) (t:Bytes) (ht:t.head?.map digitB≠some true) (hi:t.head?.map innerB≠some true) :
 oneS (itoa n++t)=(⟨2,[],n,0⟩,(itoa n).length)∧∃ c r,itoa n=c::r∧blankB c=false:=by
 rcases (by omega:n<0∨0≤n) with hn | hn
 ·obtain ⟨u,rfl⟩:∃ u:Nat,n = -(u:Int):=⟨n.natAbs,by omega⟩
  have hu:1≤u:=by omega
  have hA:=decDigits_all u
  have hD:itoa (-(u:Int))=45::decDigits u:=Lib.itoa_neg u hu
  have hne:=decDigits_ne u
  have hw:numLen (45::(decDigits u++t))=1+(decDigits u).length:=by
   unfold numLen
   rw [if_pos (by rfl)]
   show 1+while_ digitB (decDigits u++t)=_
   rw [while_all _ hA _ ht]
  have htk:(45::(decDigits u++t)).take (1+(decDigits u).length)=45::decDigits u:=by
   rw [Nat.add_comm,List.take_succ_cons,List.take_left]
  have hat:atoiAll (45::decDigits u)=.ok (-(u:Int)):=by
   have:=atoi_signed (c:=45) rfl hA hne (by rw [dv_decDigits];unfold SmallEnough;simp;omega)
   rwa [dv_decDigits] at this
  have hnx:(45::(decDigits u++t))[1+(decDigits u).length]?=t.head?:=by
   rw [Nat.add_comm,List.getElem?_cons_succ,List.getElem?_append_right (Nat.le_refl _),Nat.sub_self,List.head?_eq_getElem?]
  rw [hD]
  refine ⟨?_,45,decDigits u,rfl,by decide⟩
  show oneS (45::(decDigits u++t))=_
  obtain ⟨d,r,hdr⟩:∃ d r,decDigits u=d::r:=by
   cases h:decDigits u with
   | nil=>exact absurd h hne
   | cons d r=>exact ⟨d,r,rfl⟩
  have hdd:(decDigits u++t).head?.map digitB=some true:=by
   rw [hdr]
   have:=hA d (by rw [hdr];simp)
   simp [digitB,this.1,this.2]
  have hns:numberS (45::(decDigits u++t))=some (-(u:Int),1+(decDigits u).length):=by
   unfold numberS
   rw [hw,htk,hat]
   dsimp only
   rw [if_pos ⟨hD,by rw [hnx];exact hi⟩]
  unfold oneS
  dsimp only
  rw [if_neg (show ¬ (letterB 45=true) by decide),if_neg (show ¬ ((45:UInt8).toNat=34) by decide),if_pos (show digitB 45=true∨((45:UInt8).toNat=45∧(decDigits u++t).head?.map digitB=some true) from Or.inr ⟨rfl,hdd⟩),hns]
  simp only [List.length_cons]
  rw [Nat.add_comm]
 ·obtain ⟨u,rfl⟩:∃ u:Nat,n=(u:Int):=⟨n.toNat,by omega⟩
  have hA:=decDigits_all u
  have hD:itoa (u:Int)=decDigits u:=Lib.itoa_nonneg u
  have hne:=decDigits_ne u
  obtain ⟨c,r,hcr⟩:∃ c r,decDigits u=c::r:=by
   cases h:decDigits u with
   | nil=>exact absurd h hne
   | cons d r=>exact ⟨d,r,rfl⟩
  have hc:=digit_not_letter (hA c (by rw [hcr];simp))
  have hw:numLen (decDigits u++t)=(decDigits u).length:=by
   unfold numLen
   rw [if_neg (by rw [hcr];simpa using hc.2.2.2.2)]
   exact while_all _ hA _ ht
  have hat:atoiAll (decDigits u)=.ok (u:Int):=by
   have:=atoi_plain hA hne (by rw [dv_decDigits];unfold SmallEnough;simp;omega)
   rwa [dv_decDigits] at this
  have hns:numberS (decDigits u++t)=some ((u:Int),(decDigits u).length):=by
   unfold numberS
   rw [hw,List.take_left,hat]
   dsimp only
   rw [if_pos ⟨hD,by rw [List.getElem?_append_right (Nat.le_refl _),Nat.sub_self,← List.head?_eq_getElem?];exact hi⟩]
  rw [hD]
  refine ⟨?_,c,r,hcr,hc.2.2.2.1⟩
  rw [hcr] at hns ⊢
  unfold oneS
  rw [List.cons_append]
  dsimp only
  rw [List.cons_append] at hns
  rw [if_neg (by rw [hc.1];simp),if_neg hc.2.1,if_pos (Or.inl hc.2.2.1),hns]
theorem lexGo_tok {k a:Nat} {rest:Bytes} {acc:List Tok} {y:Tok} {n:Nat} (hb:∃ c r,rest=c::r∧blankB c=false) (h:oneS rest=(y,n)) (hn:n≠0) :
 lexGo (k+1) a rest acc=lexGo k (a+n) (rest.drop n) (acc++[{y with at_:=a}]):=by
 obtain ⟨c,r,rfl,hb⟩:=hb
 simp [lexGo,hb,h,hn]
theorem itoa_small (n:Int) (h0 : -9223372036854775808≤n) (h1:n≤9223372036854775807):(itoa n).length≤21∧(itoa n).length≠0:=by
 refine ⟨Lib.itoa_length_le n h0 h1,?_⟩
 obtain ⟨_,c,r,h,_⟩:=one_itoa n h0 h1 [] (by simp) (by simp)
 rw [h]
 simp
theorem lexGo_nil (k a:Nat) (acc:List Tok):lexGo k a [] acc=(acc,0,0):=by cases k<;>rfl
end Go.Proofs.YtnaehhpikhlppaaGreatDoor.LexS

namespace Go.Proofs.YtnaehhpikhlppaaGreatDoor
open BigFrame
theorem wp_region_quietC {P:Program} (C:World→Prop) {id:Nat} {Q:Exit→Act→World→Prop} {a:Act} {w:World} {l:List Oper} (hm:P.follows .mixedOrders=true) (hB:Region.lexB .any l.toArray=true)
 (hC:C w.drew) (h:wpQuiet P l.toArray C (fun a' => ∀ w',C w'→Q .normal a' w') l a):(Code.region id l.toArray true).wp P Q a w :=
 wp_region_quiet (C:=C) hm hB hC (by simpa using h)
theorem forall_class {C:World→Prop} {w:World} (h:C w) (p:Prop):(∀ W,C W→p)↔p:=⟨fun H=>H w h,fun H _ _=>H⟩
end Go.Proofs.YtnaehhpikhlppaaGreatDoor
