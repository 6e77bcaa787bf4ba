/- Several texts of the proof, joined. -/
import Derived.Test.YtnaehhpikhlppaaGreatDoorE4
set_option maxHeartbeats 4000000
set_option maxRecDepth 100000
set_option linter.unusedVariables false
set_option linter.unusedSimpArgs false
namespace Go.Proofs.YtnaehhpikhlppaaGreatDoor.ParS
open LexS
def Stop (r:List Tk):Prop:=r=[]∨(∃ t,r=sg kw_bar::t)∨∃ t,r=sg kw_shut::t
theorem stop_sees {r:List Tk} (h:Stop r) {w:Bytes} (h1:kw_bar≠w) (h2:kw_shut≠w):sees w r=none:=by
 rcases h with rfl | ⟨t,rfl⟩ | ⟨t,rfl⟩
 ·rfl
 ·rw [sees_sg,if_neg h1]
 ·rw [sees_sg,if_neg h2]
theorem stop_or {r:List Tk} (h:Stop r):NoOr r:=⟨stop_sees h (by decide) (by decide),stop_sees h (by decide) (by decide)⟩
theorem wants_of {w:Bytes} {ts ts1:List Tk} (h:sees w ts=some ts1) (ns:List Nd):wants w ts ns=.ok ((),ts1,ns):=by
 unfold wants
 rw [h]
theorem many_some {α:Type} {f:M α} {k:Nat} {acc:List α} {ts ts1:List Tk} (h:sees kw_comma ts=some ts1) (ns:List Nd):manyGo f (k+1) acc ts ns=M.bind f (fun a=>manyGo f k (acc++[a])) ts1 ns:=by
 show (match sees kw_comma ts with | none=>Except.ok (acc,ts,ns) | some ts1=>M.bind f (fun a=>manyGo f k (acc++[a])) ts1 ns)=_
 rw [h]
theorem many_go {α:Type} {f:M α} {T:α→List Tk} (hf:∀ x r ns,f (T x++r) ns=.ok (x,r,ns)) {rest:List Tk} (hr:sees kw_comma rest=none) (ns:List Nd):∀ (xs acc:List α) (k:Nat),xs.length≤k→manyGo f k acc ((xs.flatMap fun x=>sg kw_comma::T x)++rest) ns=.ok (acc++xs,rest,ns)
 | [],acc,k,_=>by
   cases k with
   | zero=>simp [manyGo,M.pure]
   | succ k =>
     show (match sees kw_comma rest with | none=>Except.ok (acc,rest,ns) | some ts1=>_)=_
     rw [hr]
     simp
 | x::xs,acc,0,h=>by simp at h
 | x::xs,acc,k+1,h=>by
   have e:((x::xs).flatMap fun x=>sg kw_comma::T x)++rest=sg kw_comma::(T x++((xs.flatMap fun x=>sg kw_comma::T x)++rest)):=by simp
   rw [e]
   rw [many_some (by rw [sees_sg,if_pos rfl]),bind_of (hf x _ ns),many_go hf hr ns xs (acc++[x]) k (by simpa using h)]
   simp
theorem many_back {α:Type} {f:M α} {T:α→List Tk} (hf:∀ x r ns,f (T x++r) ns=.ok (x,r,ns)) {rest:List Tk} (hr:sees kw_comma rest=none) (ns:List Nd) (xs:List α) (hne:xs ≠ []) (hl:xs.length≤1025):many f (sep (xs.map T)++rest) ns=.ok (xs,rest,ns):=by
 cases xs with
 | nil=>exact absurd rfl hne
 | cons x xs =>
   have e:sep ((x::xs).map T)++rest=T x++((xs.flatMap fun x=>sg kw_comma::T x)++rest):=by
    simp [sep,List.flatMap_map]
   rw [e]
   unfold many
   rw [bind_of (hf x _ ns),many_go hf hr ns xs [x] fuel (by unfold fuel;simp at hl;omega)]
   rfl
theorem name_back (s:Bytes) (r:List Tk) (ns:List Nd):name ([wd s]++r) ns=.ok (s,r,ns):=by
 unfold name
 rw [show [wd s]++r=wd s::r from rfl,bind_of (take_of (k:=1) (t:=wd s) rfl)]
 rfl
theorem names_back {rest:List Tk} (hr:sees kw_comma rest=none) (ns:List Nd) (l:List Bytes) (hne:l ≠ []) (hl:l.length≤1025):names (namesT l++rest) ns=.ok (l,rest,ns) :=
 many_back (f:=name) (T:=fun s=>[wd s]) name_back hr ns l hne hl
theorem agg_back {a:Nat×Bytes} (h:AggOk a) (r:List Tk) (ns:List Nd):agg (aggT a++r) ns=.ok (a,r,ns):=by
 rcases h with rfl | ⟨h1,h2⟩
 ·simp [aggT,agg,aggW,kw_aggs,choice,sees_wd]
 ·obtain ⟨k,s⟩:=a
  dsimp only at h1 h2
  have:k=2∨k=3∨k=4∨k=5∨k=6:=by omega
  rcases this with rfl | rfl | rfl | rfl | rfl
  all_goals
   simp only [aggT,agg,aggW,kw_aggs,choice]
   simp [sees_wd]
   rw [bind_of (take_of (k:=1) (t:=wd s) rfl)]
   rfl
theorem many_go' {rest:List Tk} (hr:sees kw_comma rest=none) (ns:List Nd):∀ (xs acc:List (Nat×Bytes)) (k:Nat),(∀ a∈xs,AggOk a)→xs.length≤k→manyGo agg k acc ((xs.flatMap fun x=>sg kw_comma::aggT x)++rest) ns=.ok (acc++xs,rest,ns)
 | [],acc,k,_,_=>by
   cases k with
   | zero=>simp [manyGo,M.pure]
   | succ k =>
     show (match sees kw_comma rest with | none=>Except.ok (acc,rest,ns) | some ts1=>_)=_
     rw [hr]
     simp
 | x::xs,acc,0,_,h=>by simp at h
 | x::xs,acc,k+1,ha,h=>by
   have e:((x::xs).flatMap fun x=>sg kw_comma::aggT x)++rest=sg kw_comma::(aggT x++((xs.flatMap fun x=>sg kw_comma::aggT x)++rest)):=by simp
   rw [e]
   rw [many_some (by rw [sees_sg,if_pos rfl]),bind_of (agg_back (ha x (by simp)) _ ns),many_go' hr ns xs (acc++[x]) k (fun a h=>ha a (by simp [h])) (by simpa using h)]
   simp
theorem aggs_back {rest:List Tk} (hr:sees kw_comma rest=none) (ns:List Nd) (l:List (Nat×Bytes)) (ha:∀ a∈l,AggOk a) (hne:l ≠ []) (hl:l.length≤1025):aggs (aggsT l++rest) ns=.ok (l,rest,ns):=by
 cases l with
 | nil=>exact absurd rfl hne
 | cons x xs =>
   have e:aggsT (x::xs)++rest=aggT x++((xs.flatMap fun x=>sg kw_comma::aggT x)++rest):=by
    simp [aggsT,sep,List.flatMap_map]
   rw [e]
   unfold aggs many
   rw [bind_of (agg_back (ha x (by simp)) _ ns),many_go' hr ns xs [x] fuel (fun a h=>ha a (by simp [h])) (by unfold fuel;simp at hl;omega)]
   rfl
def Qr.steps:Qr→Nat
 | .fetch _ _ _=>0
 | .where_ q _=>q.steps+1
 | .keep q _=>q.steps+1
 | .align q _=>q.steps+1
 | .group q _ _=>q.steps+1
 | .top q _ _=>q.steps+1
 | .join q _=>q.steps+1
 | .union q _=>q.steps+1
theorem Qr.steps_le (q:Qr):q.steps≤q.len:=by
 induction q with
 | fetch=>exact Nat.zero_le _
 | where_ q c ih=>simp only [Qr.steps,Qr.len];omega
 | keep q l ih=>simp only [Qr.steps,Qr.len];omega
 | align q n ih=>simp only [Qr.steps,Qr.len];omega
 | group q l g ih=>simp only [Qr.steps,Qr.len];omega
 | top q n s ih=>simp only [Qr.steps,Qr.len];omega
 | join q r ih _=>simp only [Qr.steps,Qr.len];omega
 | union q r ih _=>simp only [Qr.steps,Qr.len];omega
theorem steps_stop {step:Nat→M Nat} {ts:List Tk} (h:sees kw_bar ts=none) (k a:Nat) (ns:List Nd):stepsGo step k a ts ns=.ok (a,ts,ns):=by
 cases k with
 | zero=>rfl
 | succ k =>
   show (match sees kw_bar ts with | none=>Except.ok (a,ts,ns) | some _=>_)=_
   rw [h]
theorem steps_next {step:Nat→M Nat} {ts1 ts2:List Tk} {k a b:Nat} {ns ns1:List Nd} (h:step a ts1 ns=.ok (b,ts2,ns1)):stepsGo step (k+1) a (sg kw_bar::ts1) ns=stepsGo step k b ts2 ns1:=by
 show (match sees kw_bar (sg kw_bar::ts1) with | none=>Except.ok (a,sg kw_bar::ts1,ns) | some ts1=>M.bind (step a) (stepsGo step k) ts1 ns)=_
 rw [sees_sg,if_pos rfl]
 dsimp only
 rw [bind_of h]
theorem choice_step {k:Nat} (h1:2≤k) (h2:k≤8) (ts:List Tk):choice kw_steps 1 (wd (stepW k)::ts)=(k-1,ts):=by
 have:k=2∨k=3∨k=4∨k=5∨k=6∨k=7∨k=8:=by omega
 rcases this with rfl | rfl | rfl | rfl | rfl | rfl | rfl<;>simp [stepW,kw_steps,choice,sees_wd]
def QBack (q:Qr):Prop := ∀ d,q.deep≤d→∀ rest ns,Stop rest→queryOf (stepOf (pInner d) (pCond d)) (q.tok++rest) ns=stepsGo (stepOf (pInner d) (pCond d)) (fuel-q.steps) (ns.length+q.len-1) rest (ns++q.flat ns.length)
theorem q_step {q:Qr} (hq:QBack q) (hl:q.len≤1000) {d:Nat} (hd:q.deep≤d) {X:List Tk} {n:Nd} {Y:Nat→List Nd} {len:Nat} {rest:List Tk} (ns:List Nd)
 (hs:stepOf (pInner d) (pCond d) (ns.length+q.len-1) (X++rest) (ns++q.flat ns.length)=.ok (ns.length+len-1,rest,ns++Y ns.length)) :
 queryOf (stepOf (pInner d) (pCond d)) (q.tok++([sg kw_bar]++X)++rest) ns=stepsGo (stepOf (pInner d) (pCond d)) (fuel-(q.steps+1)) (ns.length+len-1) rest (ns++Y ns.length):=by
 have h1:=q.steps_le
 rw [List.append_assoc]
 show queryOf _ (q.tok++(sg kw_bar::(X++rest))) ns=_
 rw [hq d hd _ ns (.inr (.inl ⟨X++rest,rfl⟩))]
 obtain ⟨m,hm⟩:∃ m,fuel-q.steps=m+1:=⟨fuel-q.steps-1,by unfold fuel;omega⟩
 rw [hm]
 rw [steps_next hs,show fuel-(q.steps+1)=m by omega]
theorem lay_at (n:Nd) (rest:List Tk) (ns:List Nd):lay n rest ns=.ok (ns.length,rest,ns++[n]):=rfl
theorem sep_len (l:List (List Tk)) (h:∀ x∈l,1≤x.length):l.length≤(sep l).length:=by
 cases l with
 | nil=>exact Nat.le_refl _
 | cons x r =>
   have h1:r.length≤(r.flatMap fun y=>sg kw_comma::y).length:=by
    clear h
    induction r with
    | nil=>exact Nat.le_refl _
    | cons y r ih=>simp only [List.flatMap_cons,List.length_append,List.length_cons];omega
   have h2:=h x (by simp)
   simp only [sep,List.length_append,List.length_cons]
   omega
theorem names_len (l:List Bytes):l.length≤(namesT l).length:=by
 have:=sep_len (l.map fun s=>[wd s]) (by simp)
 simpa [namesT] using this
theorem aggs_len (l:List (Nat×Bytes)):l.length≤(aggsT l).length:=by
 have:=sep_len (l.map aggT) (by
  intro x hx
  obtain ⟨a,_,rfl⟩:=List.mem_map.1 hx
  unfold aggT
  split<;>simp)
 simpa [aggsT] using this
end Go.Proofs.YtnaehhpikhlppaaGreatDoor.ParS

namespace Go.Proofs.YtnaehhpikhlppaaGreatDoor.ParS
open LexS
section
variable {inner cond:M Nat} {rows:Nat} {ts ts1:List Tk} {ns:List Nd}
theorem step_where (h:choice kw_steps 1 ts=(1,ts1)):stepOf inner cond rows ts ns=M.bind cond (fun c=>lay (node 2 [rows,c])) ts1 ns:=by unfold stepOf;simp only [h]
theorem step_keep (h:choice kw_steps 1 ts=(2,ts1)):stepOf inner cond rows ts ns=M.bind names (fun l=>lay {node 3 [rows] with names:=l}) ts1 ns:=by unfold stepOf;simp only [h]
theorem step_align (h:choice kw_steps 1 ts=(3,ts1)):stepOf inner cond rows ts ns=M.bind (take 2) (fun t=>lay {node 4 [rows] with n:=t.n}) ts1 ns:=by unfold stepOf;simp only [h]
theorem step_group (h:choice kw_steps 1 ts=(4,ts1)):stepOf inner cond rows ts ns=M.bind (fun ts2 ns2=>match sees kw_colon ts2 with
 | some _=>.ok ([],ts2,ns2)
 | none=>names ts2 ns2) (fun l=>M.bind (wants kw_colon) fun _=>M.bind aggs fun a=>lay {node 5 [rows] with names:=l,aggs:=a}) ts1 ns:=by unfold stepOf;simp only [h]<;>rfl
theorem step_top (h:choice kw_steps 1 ts=(5,ts1)):stepOf inner cond rows ts ns=M.bind (take 2) (fun t=>M.bind (wants kw_by) fun _=>M.bind (take 1) fun u=>lay {node 6 [rows] with n:=t.n,s:=u.s}) ts1 ns:=by unfold stepOf;simp only [h]
theorem step_join (h:choice kw_steps 1 ts=(6,ts1)):stepOf inner cond rows ts ns=M.bind (wants kw_open) (fun _=>M.bind inner fun i=>lay (node 7 [rows,i])) ts1 ns:=by unfold stepOf;simp only [h]
theorem step_union (h:choice kw_steps 1 ts=(7,ts1)):stepOf inner cond rows ts ns=M.bind (wants kw_open) (fun _=>M.bind inner fun i=>lay (node 8 [rows,i])) ts1 ns:=by unfold stepOf;simp only [h]
end
theorem times_none {rest:List Tk} (h:Stop rest) (ns:List Nd):times rest ns=.ok ((0,1099511627775),rest,ns):=by
 unfold times
 rw [stop_sees h (by decide) (by decide)]
theorem times_some (f t:Int) (rest:List Tk) (ns:List Nd):times ([wd kw_from,nm f,wd kw_to,nm t]++rest) ns=.ok ((f,t),rest,ns):=by
 show times (wd kw_from::nm f::wd kw_to::nm t::rest) ns=_
 unfold times
 rw [sees_wd,if_pos rfl]
 dsimp only
 rw [bind_of (take_of (k:=2) (t:=nm f) rfl),bind_of (wants_of (w:=kw_to) (ts1:=nm t::rest) (by rw [sees_wd,if_pos rfl]) ns),bind_of (take_of (k:=2) (t:=nm t) rfl)]
 rfl
theorem inner_back {r:Qr} (h:QBack r) (hl:r.len≤1000) {d:Nat} (hd:r.deep+1≤d) (rest:List Tk) (ns:List Nd):pInner d (r.tok++sg kw_shut::rest) ns=.ok (ns.length+r.len-1,rest,ns++r.flat ns.length):=by
 obtain ⟨d,rfl⟩:∃ d',d=d'+1:=⟨d-1,by omega⟩
 show shut (queryOf (stepOf (pInner d) (pCond d))) _ ns=_
 unfold shut
 have h1:=h d (by omega) (sg kw_shut::rest) ns (.inr (.inr ⟨rest,rfl⟩))
 rw [steps_stop (by rw [sees_sg,if_neg (by decide)])] at h1
 rw [bind_of h1,bind_of (wants_of (w:=kw_shut) (ts1:=rest) (by rw [sees_sg,if_pos rfl]) _)]
 rfl
theorem query_all:∀ (q:Qr),q.Ok→q.len≤1000→q.tok.length≤1024→QBack q
 | .fetch s f t,_,_,_=>by
   intro d _ rest ns hr
   show M.bind (wants kw_fetch) _ (wd kw_fetch::wd s::((if f=0∧t=1099511627775 then [] else [wd kw_from,nm f,wd kw_to,nm t])++rest)) ns=_
   rw [bind_of (wants_of (w:=kw_fetch) (ts1:=wd s::((if f=0∧t=1099511627775 then [] else [wd kw_from,nm f,wd kw_to,nm t])++rest)) (by rw [sees_wd,if_pos rfl]) ns),bind_of (take_of (k:=1) (t:=wd s) rfl)]
   by_cases h:f=0∧t=1099511627775
   ·obtain ⟨rfl,rfl⟩:=h
    rw [if_pos ⟨rfl,rfl⟩,List.nil_append,bind_of (times_none hr ns),bind_of (lay_at _ _ _)]
    rfl
   ·rw [if_neg h,bind_of (times_some f t rest ns),bind_of (lay_at _ _ _)]
    rfl
 | .where_ q c,ok,hl,ht=>by
   have hl':q.len+c.len+1≤1000:=hl
   have et:Qr.tok (.where_ q c)=q.tok++([sg kw_bar]++([wd (stepW 2)]++c.tok 0)):=by simp [Qr.tok]
   rw [et,List.length_append] at ht
   have iq:=query_all q ok.1 (by omega) (by omega)
   intro d hd rest ns hr
   have hd':max q.deep (c.deep 0)≤d:=hd
   rw [et]
   refine q_step (len:=q.len+c.len+1) (Y:=fun b=>Qr.flat b (.where_ q c)) (n:=node 0 []) iq (by omega) (by omega) ns ?_
   obtain ⟨_,_,c1⟩:=cond_all c ok.2 (by omega)
   rw [List.append_assoc]
   show stepOf _ _ _ (wd (stepW 2)::(c.tok 0++rest)) _=_
   rw [step_where (choice_step (by decide) (by decide) _),c.tok0,bind_of (cond_back c1 (by omega) (by rw [← c.deep0];omega) (stop_or hr) _),lay_at]
   have:=c.pos
   simp only [List.length_append,q.flat_len,c.flat_len,Qr.flat,List.append_assoc]
   rw [show ns.length+(q.len+c.len+1)-1=ns.length+(q.len+c.len) by omega,show ns.length+(q.len+c.len)=ns.length+q.len+c.len by omega]
 | .keep q l,ok,hl,ht=>by
   have hl':q.len+1≤1000:=hl
   have et:Qr.tok (.keep q l)=q.tok++([sg kw_bar]++([wd (stepW 3)]++namesT l)):=by simp [Qr.tok]
   rw [et,List.length_append,List.length_append,List.length_append] at ht
   have iq:=query_all q ok.1 (by omega) (by omega)
   intro d hd rest ns hr
   rw [et]
   refine q_step (len:=q.len+1) (Y:=fun b=>Qr.flat b (.keep q l)) (n:=node 0 []) iq (by omega) hd ns ?_
   have:=names_len l
   rw [List.append_assoc]
   show stepOf _ _ _ (wd (stepW 3)::(namesT l++rest)) _=_
   rw [step_keep (choice_step (by decide) (by decide) _),bind_of (names_back (stop_sees hr (by decide) (by decide)) _ l ok.2 (by omega)),lay_at]
   simp only [List.length_append,q.flat_len,Qr.flat,List.append_assoc]
   rw [show ns.length+(q.len+1)-1=ns.length+q.len by omega]
 | .align q n,ok,hl,ht=>by
   have hl':q.len+1≤1000:=hl
   have et:Qr.tok (.align q n)=q.tok++([sg kw_bar]++[wd (stepW 4),nm n]):=by simp [Qr.tok]
   rw [et,List.length_append] at ht
   have iq:=query_all q ok (by omega) (by omega)
   intro d hd rest ns hr
   rw [et]
   refine q_step (len:=q.len+1) (Y:=fun b=>Qr.flat b (.align q n)) (n:=node 0 []) iq (by omega) hd ns ?_
   show stepOf _ _ _ (wd (stepW 4)::(nm n::rest)) _=_
   rw [step_align (choice_step (by decide) (by decide) _),bind_of (take_of (k:=2) (t:=nm n) rfl),lay_at]
   simp only [List.length_append,q.flat_len,Qr.flat,List.append_assoc]
   rw [show ns.length+(q.len+1)-1=ns.length+q.len by omega]
   rfl
 | .group q l g,ok,hl,ht=>by
   have hl':q.len+1≤1000:=hl
   have et:Qr.tok (.group q l g)=q.tok++([sg kw_bar]++([wd (stepW 5)]++namesT l++[sg kw_colon]++aggsT g)):=by simp [Qr.tok]
   rw [et] at ht
   simp only [List.length_append] at ht
   obtain ⟨k1,k2,k3,k4⟩:=ok
   have iq:=query_all q k1 (by omega) (by omega)
   intro d hd rest ns hr
   rw [et]
   refine q_step (len:=q.len+1) (Y:=fun b=>Qr.flat b (.group q l g)) (n:=node 0 []) iq (by omega) hd ns ?_
   have h1:=names_len l
   have h2:=aggs_len g
   simp only [List.append_assoc]
   show stepOf _ _ _ (wd (stepW 5)::(namesT l++(sg kw_colon::(aggsT g++rest)))) _=_
   rw [step_group (choice_step (by decide) (by decide) _)]
   have hn:(fun (ts2:List Tk) (ns2:List Nd)=>match sees kw_colon ts2 with
    | some _=>Except.ok ([],ts2,ns2)
    | none=>names ts2 ns2) (namesT l++(sg kw_colon::(aggsT g++rest))) (ns++q.flat ns.length)=(Except.ok (l,sg kw_colon::(aggsT g++rest),ns++q.flat ns.length):Except Er _):=by
    dsimp only
    cases l with
    | nil =>
      have hc:sees kw_colon (namesT []++(sg kw_colon::(aggsT g++rest)))=some (aggsT g++rest):=by
       show sees kw_colon (sg kw_colon::_)=_
       rw [sees_sg,if_pos rfl]
      rw [hc]
      rfl
    | cons s l =>
      have hs:=k2 s rfl
      have hc:sees kw_colon (namesT (s::l)++(sg kw_colon::(aggsT g++rest)))=none:=by
       show sees kw_colon (wd s::_)=none
       rw [sees_wd,if_neg hs]
      rw [hc]
      exact names_back (by rw [sees_sg,if_neg (by decide)]) _ (s::l) (by simp) (by omega)
   rw [bind_of hn,bind_of (wants_of (w:=kw_colon) (ts1:=aggsT g++rest) (by rw [sees_sg,if_pos rfl]) _),bind_of (aggs_back (stop_sees hr (by decide) (by decide)) _ g k4 k3 (by omega)),lay_at]
   simp only [List.length_append,q.flat_len,Qr.flat,List.append_assoc]
   rw [show ns.length+(q.len+1)-1=ns.length+q.len by omega]
 | .top q n s,ok,hl,ht=>by
   have hl':q.len+1≤1000:=hl
   have et:Qr.tok (.top q n s)=q.tok++([sg kw_bar]++[wd (stepW 6),nm n,wd kw_by,wd s]):=by simp [Qr.tok]
   rw [et,List.length_append] at ht
   have iq:=query_all q ok (by omega) (by omega)
   intro d hd rest ns hr
   rw [et]
   refine q_step (len:=q.len+1) (Y:=fun b=>Qr.flat b (.top q n s)) (n:=node 0 []) iq (by omega) hd ns ?_
   show stepOf _ _ _ (wd (stepW 6)::(nm n::wd kw_by::wd s::rest)) _=_
   rw [step_top (choice_step (by decide) (by decide) _),bind_of (take_of (k:=2) (t:=nm n) rfl),bind_of (wants_of (w:=kw_by) (ts1:=wd s::rest) (by rw [sees_wd,if_pos rfl]) _),bind_of (take_of (k:=1) (t:=wd s) rfl),lay_at]
   simp only [List.length_append,q.flat_len,Qr.flat,List.append_assoc]
   rw [show ns.length+(q.len+1)-1=ns.length+q.len by omega]
   rfl
 | .join q r,ok,hl,ht=>by
   have hl':q.len+r.len+1≤1000:=hl
   have et:Qr.tok (.join q r)=q.tok++([sg kw_bar]++([wd (stepW 7),sg kw_open]++r.tok++[sg kw_shut])):=by simp [Qr.tok]
   rw [et] at ht
   simp only [List.length_append] at ht
   have iq:=query_all q ok.1 (by omega) (by omega)
   have ir:=query_all r ok.2 (by omega) (by omega)
   intro d hd rest ns hr
   have hd':max q.deep (r.deep+1)≤d:=hd
   rw [et]
   refine q_step (len:=q.len+r.len+1) (Y:=fun b=>Qr.flat b (.join q r)) (n:=node 0 []) iq (by omega) (by omega) ns ?_
   simp only [List.append_assoc]
   show stepOf _ _ _ (wd (stepW 7)::(sg kw_open::(r.tok++(sg kw_shut::rest)))) _=_
   rw [step_join (choice_step (by decide) (by decide) _),bind_of (wants_of (w:=kw_open) (ts1:=r.tok++(sg kw_shut::rest)) (by rw [sees_sg,if_pos rfl]) _),bind_of (inner_back ir (by omega) (by omega) rest _),lay_at]
   have:=r.pos
   simp only [List.length_append,q.flat_len,r.flat_len,Qr.flat,List.append_assoc]
   rw [show ns.length+(q.len+r.len+1)-1=ns.length+(q.len+r.len) by omega,show ns.length+(q.len+r.len)=ns.length+q.len+r.len by omega]
 | .union q r,ok,hl,ht=>by
   have hl':q.len+r.len+1≤1000:=hl
   have et:Qr.tok (.union q r)=q.tok++([sg kw_bar]++([wd (stepW 8),sg kw_open]++r.tok++[sg kw_shut])):=by simp [Qr.tok]
   rw [et] at ht
   simp only [List.length_append] at ht
   have iq:=query_all q ok.1 (by omega) (by omega)
   have ir:=query_all r ok.2 (by omega) (by omega)
   intro d hd rest ns hr
   have hd':max q.deep (r.deep+1)≤d:=hd
   rw [et]
   refine q_step (len:=q.len+r.len+1) (Y:=fun b=>Qr.flat b (.union q r)) (n:=node 0 []) iq (by omega) (by omega) ns ?_
   simp only [List.append_assoc]
   show stepOf _ _ _ (wd (stepW 8)::(sg kw_open::(r.tok++(sg kw_shut::rest)))) _=_
   rw [step_union (choice_step (by decide) (by decide) _),bind_of (wants_of (w:=kw_open) (ts1:=r.tok++(sg kw_shut::rest)) (by rw [sees_sg,if_pos rfl]) _),bind_of (inner_back ir (by omega) (by omega) rest _),lay_at]
   have:=r.pos
   simp only [List.length_append,q.flat_len,r.flat_len,Qr.flat,List.append_assoc]
   rw [show ns.length+(q.len+r.len+1)-1=ns.length+(q.len+r.len) by omega,show ns.length+(q.len+r.len)=ns.length+q.len+r.len by omega]
theorem parse_back {q:Qr} (h:q.Ok) (hl:q.len≤128) (ht:q.tok.length≤1024) (hd:q.deep≤16):parseAll (pQuery 16) q.tok=(q.flat 0,0,0):=by
 unfold parseAll
 rw [if_neg (by omega)]
 have:=query_all q h (by omega) ht 16 hd [] [] (.inl rfl)
 rw [steps_stop rfl,List.append_nil] at this
 rw [show pQuery 16=queryOf (stepOf (pInner 16) (pCond 16)) from rfl,this]
 dsimp only
 rw [if_neg (by simp),if_neg (by rw [List.nil_append,q.flat_len];omega)]
 simp
end Go.Proofs.YtnaehhpikhlppaaGreatDoor.ParS

namespace Go.Proofs.YtnaehhpikhlppaaGreatDoor.ParS
open LexS
def kwL:List Tk:=([kw_fetch,kw_from,kw_to,kw_by,kw_or,kw_and,kw_not,kw_has]++kw_aggs++kw_steps++kw_bools).map wd++([kw_bar,kw_comma,kw_open,kw_shut,kw_colon]++kw_signs).map sg
def Kw (t:Tk):Prop:=t∈kwL
instance (t:Tk):Decidable (Kw t):=inferInstanceAs (Decidable (t∈kwL))
def norm (u:Tk):Tk:=if u.kind=1 then wd u.s else if u.kind=2 then nm u.n else if u.kind=3 then tx u.s else sg u.s
theorem norm1 {u:Tk} (h:u.kind=1):norm u=wd u.s:=if_pos h
theorem norm2 {u:Tk} (h:u.kind=2):norm u=nm u.n:=by unfold norm;rw [if_neg (by omega),if_pos h]
theorem norm3 {u:Tk} (h:u.kind=3):norm u=tx u.s:=by unfold norm;rw [if_neg (by omega),if_neg (by omega),if_pos h]
def From (used toks:List Tk):Prop:=toks.length≤used.length∧∀ t∈toks,Kw t∨∃ u∈used,t=norm u
theorem From.nil:From [] []:=⟨Nat.le_refl _,fun t h=>by cases h⟩
theorem From.app {u1 u2 t1 t2:List Tk} (h:From u1 t1) (k:From u2 t2):From (u1++u2) (t1++t2):=by
 refine ⟨by simp only [List.length_append];have:=h.1;have:=k.1;omega,fun t ht=>?_⟩
 rcases List.mem_append.1 ht with ht | ht
 ·rcases h.2 t ht with h1 | ⟨u,hu,e⟩
  ·exact .inl h1
  ·exact .inr ⟨u,List.mem_append_left _ hu,e⟩
 ·rcases k.2 t ht with h1 | ⟨u,hu,e⟩
  ·exact .inl h1
  ·exact .inr ⟨u,List.mem_append_right _ hu,e⟩
theorem From.kw {t:Tk} (u:Tk) (h:Kw t):From [u] [t]:=⟨Nat.le_refl _,fun x hx=>by rw [List.mem_singleton] at hx;subst hx;exact .inl h⟩
theorem From.own {t u:Tk} (h:t=norm u):From [u] [t]:=⟨Nat.le_refl _,fun x hx=>by rw [List.mem_singleton] at hx;subst hx;exact .inr ⟨u,by simp,h⟩⟩
theorem From.more {u u' t:List Tk} (h:From u t) (hl:u.length≤u'.length) (hm:∀ x∈u,x∈u'):From u' t:=by
 refine ⟨Nat.le_trans h.1 hl,fun x hx=>?_⟩
 rcases h.2 x hx with h1 | ⟨y,hy,e⟩
 ·exact .inl h1
 ·exact .inr ⟨y,hm y hy,e⟩
theorem From.less {u t t':List Tk} (h:From u t) (hl:t'.length≤t.length) (hm:∀ x∈t',x∈t):From u t':=⟨Nat.le_trans hl h.1,fun x hx=>h.2 x (hm x hx)⟩
theorem sees_some {w:Bytes} {ts ts1:List Tk} (h:sees w ts=some ts1):∃ t,ts=t::ts1:=by
 cases ts with
 | nil=>cases h
 | cons t ts =>
   rw [sees_cons] at h
   split at h
   ·injection h with h
    subst h
    exact ⟨t,rfl⟩
   ·cases h
theorem take_ok {k:Nat} {ts:List Tk} {ns:List Nd} {t:Tk} {ts1:List Tk} {ns1:List Nd} (h:take k ts ns=.ok (t,ts1,ns1)):ts=t::ts1∧t.kind=k∧ns1=ns:=by
 unfold take at h
 split at h
 ·cases h
 ·split at h
  ·rename_i hk
   cases h
   exact ⟨rfl,hk,rfl⟩
  ·cases h
theorem wants_ok {w:Bytes} {ts:List Tk} {ns:List Nd} {u:Unit} {ts1:List Tk} {ns1:List Nd} (h:wants w ts ns=.ok (u,ts1,ns1)):(∃ t,ts=t::ts1)∧ns1=ns:=by
 unfold wants at h
 split at h
 ·rename_i e
  cases h
  exact ⟨sees_some e,rfl⟩
 ·cases h
theorem choice_ok:∀ (l:List Bytes) (i:Nat) (ts:List Tk) (k:Nat) (ts1:List Tk),choice l i ts=(k,ts1)→k=0∨(i≤k∧k<i+l.length∧∃ t,ts=t::ts1)
 | [],i,ts,k,ts1,h=>by
   injection h with h1 h2
   exact .inl h1.symm
 | w::l,i,ts,k,ts1,h=>by
   unfold choice at h
   split at h
   ·rename_i e
    injection h with h1 h2
    subst h1 h2
    exact .inr ⟨Nat.le_refl _,by simp,sees_some e⟩
   ·rcases choice_ok l (i+1) ts k ts1 h with h | ⟨h1,h2,h3⟩
    ·exact .inl h
    ·exact .inr ⟨by omega,by simp;omega,h3⟩
theorem value_ok {ts:List Tk} {ns:List Nd} {v:Val} {ts1:List Tk} {ns1:List Nd} (h:value ts ns=.ok (v,ts1,ns1)):ns1=ns∧ValOk v∧∃ t,ts=t::ts1∧From [t] (valT v):=by
 unfold value at h
 split at h
 ·rename_i e
  cases h
  rcases choice_ok _ _ _ _ _ e with h | ⟨_,_,t,ht⟩
  ·cases h
  ·exact ⟨rfl,.inr (.inr ⟨rfl,rfl,.inl rfl⟩),t,ht,From.kw t (by decide)⟩
 ·rename_i e
  cases h
  rcases choice_ok _ _ _ _ _ e with h | ⟨_,_,t,ht⟩
  ·cases h
  ·exact ⟨rfl,.inr (.inr ⟨rfl,rfl,.inr rfl⟩),t,ht,From.kw t (by decide)⟩
 ·cases ts with
  | nil=>cases h
  | cons t ts2 =>
    dsimp only at h
    split at h
    ·rename_i hk
     cases h
     exact ⟨rfl,.inl ⟨rfl,rfl⟩,t,rfl,show From [t] [nm t.n] from From.own (norm2 hk).symm⟩
    ·split at h
     ·rename_i hk
      cases h
      exact ⟨rfl,.inr (.inl ⟨rfl,rfl⟩),t,rfl,show From [t] [tx t.s] from From.own (norm3 hk).symm⟩
     ·cases h
def GivesC (p:M Nat) (w d:Nat):Prop := ∀ ts ns a ts1 ns1,p ts ns=.ok (a,ts1,ns1)→∃ (c:Cd) (used:List Tk),ts=used++ts1∧ns1=ns++c.flat ns.length∧a=ns.length+c.len-1∧c.Ok∧c.deep w≤d∧From used (c.tok w)
theorem kw_sign {k:Nat} (h:k<6):Kw (sg (signW (k+1))):=by
 have:k=0∨k=1∨k=2∨k=3∨k=4∨k=5:=by omega
 rcases this with rfl | rfl | rfl | rfl | rfl | rfl<;>decide
theorem leaf_ok {ts:List Tk} {ns:List Nd} {a:Nat} {ts2:List Tk} {ns2:List Nd} (h:leaf ts ns=.ok (a,ts2,ns2)) (hn:sees kw_not ts=none) (ho:sees kw_open ts=none) :
 ∃ (c:Cd) (used:List Tk),ts=used++ts2∧ns2=ns++c.flat ns.length∧a=ns.length+c.len-1∧c.Ok∧c.rank=3∧c.deepB=0∧From used c.body:=by
 obtain ⟨t,ts1,ns1,h1,h2⟩:=bind_ok h
 obtain ⟨rfl,hk,rfl⟩:=take_ok h1
 have hw:∀ w,sees w (t::ts1)=none→t.s≠w:=by
  intro w hs e
  rw [sees_cons,show isW w t=true by simp [isW,hk,e]] at hs
  cases hs
 have hcol:ColOk t.s:=⟨hw _ hn,hw _ ho⟩
 have ht:wd t.s=norm t:=(norm1 hk).symm
 split at h2
 ·rename_i ts3 e
  obtain ⟨u,ts4,ns4,h3,h4⟩:=bind_ok h2
  obtain ⟨rfl,hk3,rfl⟩:=take_ok h3
  obtain ⟨x,rfl⟩:=sees_some e
  cases h4
  exact ⟨.has t.s u.s,[t]++[x]++[u],rfl,rfl,rfl,hcol,rfl,rfl,((From.own ht).app (From.kw x (by decide))).app (From.own (norm3 hk3).symm)⟩
 ·split at h2
  ·cases h2
  ·rename_i k ts3 e
   obtain ⟨v,ts4,ns4,h3,h4⟩:=bind_ok h2
   obtain ⟨rfl,hv,y,rfl,hf⟩:=value_ok h3
   rcases choice_ok _ _ _ _ _ e with h | ⟨_,hk6,x,rfl⟩
   ·cases h
   ·cases h4
    have hk6':k+1<1+6:=hk6
    exact ⟨.cmp t.s (k+1) v,[t]++[x]++[y],rfl,rfl,rfl,⟨hcol,by omega,by omega,hv⟩,rfl,rfl,((From.own ht).app (From.kw x (kw_sign (by omega)))).app hf⟩
theorem rank_tok {c:Cd} {w:Nat} (h:w≤c.rank):c.tok w=c.body∧c.deep w=c.deepB:=by
 unfold Cd.tok Cd.deep brk brkN
 rw [if_neg (by omega),if_neg (by omega)]
 exact ⟨rfl,rfl⟩
theorem tok_less {c:Cd} {w v:Nat} (h:w≤v):(c.tok w).length≤(c.tok v).length∧(∀ x∈c.tok w,x∈c.tok v)∧c.deep w≤c.deep v:=by
 unfold Cd.tok Cd.deep brk brkN
 by_cases h1:c.rank<w
 ·rw [if_pos h1,if_pos (by omega),if_pos h1,if_pos (by omega)]
  exact ⟨Nat.le_refl _,fun x hx=>hx,Nat.le_refl _⟩
 ·rw [if_neg h1,if_neg h1]
  by_cases h2:c.rank<v
  ·rw [if_pos h2,if_pos h2]
   refine ⟨by simp;omega,fun x hx=>by simp [hx],by omega⟩
  ·rw [if_neg h2,if_neg h2]
   exact ⟨Nat.le_refl _,fun x hx=>hx,Nat.le_refl _⟩
theorem GivesC.lower {p:M Nat} {w v d:Nat} (h:GivesC p v d) (hw:w≤v):GivesC p w d:=by
 intro ts ns a ts1 ns1 e
 obtain ⟨c,used,h1,h2,h3,h4,h5,h6⟩:=h ts ns a ts1 ns1 e
 obtain ⟨k1,k2,k3⟩:=tok_less (c:=c) hw
 exact ⟨c,used,h1,h2,h3,h4,Nat.le_trans k3 h5,h6.less k1 k2⟩
theorem joined_gives {w:Bytes} {kind r:Nat} {read:M Nat} {mk:Cd→Cd→Cd} {d:Nat} (hread:GivesC read (r+1) d) (hkw:Kw (wd w))
 (hmk:∀ x y,(mk x y).tok r=x.tok r++[wd w]++y.tok (r+1)∧(mk x y).deep r=max (x.deep r) (y.deep (r+1))∧(mk x y).len=x.len+y.len+1∧((mk x y).Ok↔x.Ok∧y.Ok)∧∀ b,(mk x y).flat b=x.flat b++y.flat (b+x.len)++[node kind [b+x.len-1,b+x.len+y.len-1]]) :
 ∀ (k:Nat) (x:Cd) (ns:List Nd) (used:List Tk),x.Ok→x.deep r≤d→From used (x.tok r)→∀ (ts:List Tk) (a2:Nat) (ts2:List Tk) (ns2:List Nd),joinedGo w kind read k (ns.length+x.len-1) ts (ns++x.flat ns.length)=.ok (a2,ts2,ns2) →
   ∃ (c:Cd) (used2:List Tk),used++ts=used2++ts2∧ns2=ns++c.flat ns.length∧a2=ns.length+c.len-1∧c.Ok∧c.deep r≤d∧From used2 (c.tok r)
 | 0,x,ns,used,ok,hd,hf,ts,a2,ts2,ns2,h=>by
   cases h
   exact ⟨x,used,rfl,rfl,rfl,ok,hd,hf⟩
 | k+1,x,ns,used,ok,hd,hf,ts,a2,ts2,ns2,h=>by
   unfold joinedGo at h
   split at h
   ·cases h
    exact ⟨x,used,rfl,rfl,rfl,ok,hd,hf⟩
   ·rename_i ts1 e
    obtain ⟨t,rfl⟩:=sees_some e
    obtain ⟨b,ts3,ns3,h3,h4⟩:=bind_ok h
    obtain ⟨y,used3,rfl,rfl,rfl,oky,hdy,hfy⟩:=hread _ _ _ _ _ h3
    obtain ⟨c,ts4,ns4,h5,h6⟩:=bind_ok h4
    cases h5
    obtain ⟨m1,m2,m3,m4,m5⟩:=hmk x y
    have hp:=x.pos
    have hq:=y.pos
    have e1:(ns++x.flat ns.length).length=ns.length+x.len:=by rw [List.length_append,x.flat_len]
    rw [e1] at h6
    have e2:ns++x.flat ns.length++y.flat (ns.length+x.len)++[node kind [ns.length+x.len-1,ns.length+x.len+y.len-1]]=ns++(mk x y).flat ns.length:=by
     rw [m5]
     simp only [List.append_assoc]
    have e3:(ns++x.flat ns.length++y.flat (ns.length+x.len)).length=ns.length+(mk x y).len-1:=by
     rw [List.length_append,e1,y.flat_len,m3]
     omega
    rw [e2,e3] at h6
    have:=joined_gives hread hkw hmk k (mk x y) ns (used++[t]++used3) (m4.2 ⟨ok,oky⟩) (by rw [m2];omega) (by rw [m1];exact (hf.app (From.kw t hkw)).app hfy) _ _ _ _ h6
    obtain ⟨c,u2,k1,k2⟩:=this
    refine ⟨c,u2,?_,k2⟩
    rw [← k1]
    simp
theorem gives_joined {w:Bytes} {kind r:Nat} {read:M Nat} {mk:Cd→Cd→Cd} {d:Nat} (hread:GivesC read (r+1) d) (hkw:Kw (wd w))
 (hmk:∀ x y,(mk x y).tok r=x.tok r++[wd w]++y.tok (r+1)∧(mk x y).deep r=max (x.deep r) (y.deep (r+1))∧(mk x y).len=x.len+y.len+1∧((mk x y).Ok↔x.Ok∧y.Ok)∧∀ b,(mk x y).flat b=x.flat b++y.flat (b+x.len)++[node kind [b+x.len-1,b+x.len+y.len-1]]):GivesC (joined w kind read) r d:=by
 intro ts ns a ts2 ns2 h
 obtain ⟨b,ts1,ns1,h1,h2⟩:=bind_ok h
 obtain ⟨x,used,rfl,rfl,rfl,ok,hd,hf⟩:=(hread.lower (Nat.le_succ r)) _ _ _ _ _ h1
 exact joined_gives hread hkw hmk _ x ns used ok hd hf _ _ _ _ h2
theorem gives_both {n:M Nat} {d:Nat} (h:GivesC n 3 d):GivesC (bothOf n) 2 d :=
 gives_joined (mk:=.and) h (by decide) fun x y=>⟨rfl,rfl,rfl,Iff.rfl,fun b=>rfl⟩
theorem gives_cond {n:M Nat} {d:Nat} (h:GivesC n 3 d):GivesC (condOf n) 1 d :=
 gives_joined (mk:=.or) (gives_both h) (by decide) fun x y=>⟨rfl,rfl,rfl,Iff.rfl,fun b=>rfl⟩
theorem gives_not_step {p q:M Nat} {d:Nat} (hp:∀ ts ns a ts1 ns1,p ts ns=.ok (a,ts1,ns1)→1≤d∧∃ (c:Cd) (used:List Tk),ts=used++ts1∧ns1=ns++c.flat ns.length∧a=ns.length+c.len-1∧c.Ok∧c.deep 3+1≤d∧From used (c.tok 3))
 (hq:∀ (t:Tk) ts ns a ts1 ns1,q ts ns=.ok (a,ts1,ns1)→∃ (c:Cd) (used:List Tk),t::ts=used++ts1∧ns1=ns++c.flat ns.length∧a=ns.length+c.len-1∧c.Ok∧c.deep 3≤d∧From used (c.tok 3)):GivesC (notOf p q) 3 d:=by
 intro ts ns a ts1 ns1 h
 unfold notOf at h
 split at h
 ·rename_i ts2 e
  obtain ⟨t,rfl⟩:=sees_some e
  obtain ⟨b,ts3,ns3,h3,h4⟩:=bind_ok h
  obtain ⟨_,c,used,rfl,rfl,rfl,ok,hd,hf⟩:=hp _ _ _ _ _ h3
  cases h4
  have hp:=c.pos
  refine ⟨.not c,[t]++used,rfl,by rw [List.append_assoc];rfl,by rw [List.length_append,c.flat_len];show _=ns.length+(c.len+1)-1;omega,ok,hd,(From.kw t (by decide:Kw (wd kw_not))).app hf⟩
 ·rename_i hno
  split at h
  ·rename_i ts2 e
   obtain ⟨t,rfl⟩:=sees_some e
   exact hq t _ _ _ _ _ h
  ·rename_i hop
   obtain ⟨c,used,h1,h2,h3,h4,h5,h6,h7⟩:=leaf_ok h hno hop
   obtain ⟨r1,r2⟩:=rank_tok (c:=c) (w:=3) (by omega)
   exact ⟨c,used,h1,h2,h3,h4,by rw [r2,h6];exact Nat.zero_le _,by rw [r1];exact h7⟩
theorem gives_not:∀ d,GivesC (pNot d) 3 d
 | 0=>gives_not_step (fun ts ns a ts1 ns1 h=>by cases h) (fun t ts ns a ts1 ns1 h=>by cases h)
 | d+1=>by
   have ih:=gives_not d
   refine gives_not_step (fun ts ns a ts1 ns1 h=>?_) (fun t ts ns a ts1 ns1 h=>?_)
   ·obtain ⟨c,used,h1,h2,h3,h4,h5,h6⟩:=ih _ _ _ _ _ h
    exact ⟨Nat.succ_le_succ (Nat.zero_le _),c,used,h1,h2,h3,h4,by omega,h6⟩
   ·obtain ⟨b,ts3,ns3,h3,h4⟩:=bind_ok h
    obtain ⟨c,used,rfl,rfl,rfl,ok,hd,hf⟩:=gives_cond ih _ _ _ _ _ h3
    obtain ⟨u,ts5,ns5,h5,h6⟩:=bind_ok h4
    obtain ⟨⟨x,rfl⟩,rfl⟩:=wants_ok h5
    cases h6
    rw [c.tok1] at hf
    rw [c.deep1] at hd
    have hf3:From ([t]++used++[x]) (c.tok 3):=by
     unfold Cd.tok brk
     split
     ·exact ((From.kw t (by decide)).app hf).app (From.kw x (by decide))
     ·exact hf.more (by simp;omega) (fun y hy=>by simp [hy])
    refine ⟨c,[t]++used++[x],by simp,rfl,rfl,ok,?_,hf3⟩
    unfold Cd.deep brkN
    split<;>omega
theorem gives_pCond (d:Nat):GivesC (pCond d) 1 d:=gives_cond (gives_not d)
end Go.Proofs.YtnaehhpikhlppaaGreatDoor.ParS
