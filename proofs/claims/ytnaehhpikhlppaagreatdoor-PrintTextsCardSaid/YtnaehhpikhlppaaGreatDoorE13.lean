/- Several texts of the proof, joined. -/
import Derived.Test.YtnaehhpikhlppaaGreatDoorE3
import Derived.Test.YtnaehhpikhlppaaGreatDoorE12
import Derived.Test.YtnaehhpikhlppaaGreatDoorE9
set_option maxHeartbeats 4000000
set_option maxRecDepth 100000
set_option linter.unusedVariables false
set_option linter.unusedSimpArgs false
namespace Go.Proofs.YtnaehhpikhlppaaGreatDoor.ParS
open LexS
def Rel (S:List Tk→Prop) (e:Prop) {α:Type} (p q:M α):Prop := ∀ ts ns a ts1 ns1,p ts ns=.ok (a,ts1,ns1) →
 ts1.length≤ts.length∧∀ us,(ts1=[]→S us)→∀ ns',∃ a' ns1',q (ts++us) ns'=.ok (a',ts1++us,ns1')∧(e→ns'=ns→a'=a∧ns1'=ns1)
section
variable {S:List Tk→Prop} {e:Prop} {α β:Type}
theorem Rel.at {p q:M α} (h:Rel S e p q) {S':List Tk→Prop} (hS:∀ us,S' us→S us):Rel S' e p q:=fun ts ns a ts1 ns1 hp =>
 ⟨(h ts ns a ts1 ns1 hp).1,fun us hu ns'=>(h ts ns a ts1 ns1 hp).2 us (fun x=>hS us (hu x)) ns'⟩
theorem rel_bind {p q:M α} {f g:α→M β} (hp:Rel S e p q) (hf:∀ a a',Rel S (e∧a'=a) (f a) (g a')):Rel S e (M.bind p f) (M.bind q g):=by
 intro ts ns b ts2 ns2 h
 unfold M.bind at h
 split at h
 ·cases h
 ·rename_i a ts1 ns1 hpa
  obtain ⟨l1,k1⟩:=hp _ _ _ _ _ hpa
  obtain ⟨l2,k2⟩:=hf a a _ _ _ _ _ h
  refine ⟨Nat.le_trans l2 l1,fun us hu ns'=>?_⟩
  obtain ⟨a',n1',h1,e1⟩:=k1 us (fun x=>hu (List.eq_nil_of_length_eq_zero (by rw [x] at l2;simpa using l2))) ns'
  obtain ⟨b',n2',h2,e2⟩:=(hf a a' _ _ _ _ _ h).2 us hu n1'
  refine ⟨b',n2',?_,fun x y=>?_⟩
  ·unfold M.bind
   rw [h1]
   exact h2
  ·obtain ⟨ea,en⟩:=e1 x y
   exact e2 ⟨x,ea⟩ en
theorem rel_pure {a a':α} (h:e→a'=a):Rel S e (M.pure a) (M.pure a'):=by
 intro ts ns b ts1 ns1 hp
 cases hp
 exact ⟨Nat.le_refl _,fun us _ ns'=>⟨a',ns',rfl,fun x y=>⟨h x,y⟩⟩⟩
theorem rel_lay {n n':Nd} (h:e→n'=n):Rel S e (lay n) (lay n'):=by
 intro ts ns b ts1 ns1 hp
 cases hp
 exact ⟨Nat.le_refl _,fun us _ ns'=>⟨_,_,rfl,fun x y=>by rw [h x,y];exact ⟨rfl,rfl⟩⟩⟩
theorem rel_deep {q:M α}:Rel S e M.deep q:=by
 intro ts ns b ts1 ns1 hp
 cases hp
theorem sees_more {w:Bytes} {ts ts1 us:List Tk} (h:sees w ts=some ts1):sees w (ts++us)=some (ts1++us)∧ts1.length<ts.length:=by
 cases ts with
 | nil=>cases h
 | cons t r =>
   rw [sees_cons] at h
   split at h
   ·rename_i c
    injection h with h
    subst h
    refine ⟨?_,by simp⟩
    rw [List.cons_append,sees_cons,if_pos c]
   ·cases h
theorem sees_none {w:Bytes} {ts us:List Tk} (h:sees w ts=none) (hu:ts=[]→sees w us=none):sees w (ts++us)=none:=by
 cases ts with
 | nil=>exact hu rfl
 | cons t r =>
   rw [sees_cons] at h
   rw [List.cons_append,sees_cons]
   split at h
   ·cases h
   ·rename_i c
    rw [if_neg c]
theorem choice_more:∀ {l:List Bytes} {i k:Nat} {ts ts1:List Tk} (us:List Tk),choice l i ts=(k,ts1)→ts ≠ []→choice l i (ts++us)=(k,ts1++us)∧ts1.length≤ts.length
 | [],i,k,ts,ts1,us,h,_=>by
   cases h
   exact ⟨rfl,Nat.le_refl _⟩
 | w::l,i,k,ts,ts1,us,h,hne=>by
   unfold choice at h ⊢
   split at h
   ·rename_i ts2 hs
    cases h
    rw [(sees_more (us:=us) hs).1]
    exact ⟨rfl,Nat.le_of_lt (sees_more (us:=us) hs).2⟩
   ·rename_i hs
    rw [sees_none hs (fun x=>absurd x hne)]
    exact choice_more us h hne
theorem choice_nil (l:List Bytes):∀ i,choice l i []=(0,[]):=by
 induction l with
 | nil=>intro i;rfl
 | cons w l ih=>intro i;exact ih _
theorem rel_take (k:Nat):Rel S e (take k) (take k):=by
 intro ts ns b ts1 ns1 hp
 cases ts with
 | nil=>cases hp
 | cons t r =>
   have ht:∀ us n',take k ((t::r)++us) n'=if t.kind=k then .ok (t,r++us,n') else .error ((r++us).length+1,false):=fun _ _=>rfl
   have hp':(if t.kind=k then Except.ok (t,r,ns) else Except.error (r.length+1,false):Except Er (Tk×List Tk×List Nd))=.ok (b,ts1,ns1):=hp
   split at hp'
   ·rename_i c
    cases hp'
    exact ⟨by simp,fun us _ ns'=>⟨_,ns',by rw [ht,if_pos c],fun _ y=>⟨rfl,y⟩⟩⟩
   ·cases hp'
theorem rel_wants (w:Bytes):Rel S e (wants w) (wants w):=by
 intro ts ns b ts1 ns1 hp
 unfold wants at hp
 split at hp
 ·rename_i ts2 hs
  cases hp
  refine ⟨Nat.le_of_lt (sees_more (us:=[]) hs).2,fun us _ ns'=>⟨(),ns',?_,fun _ y=>⟨rfl,y⟩⟩⟩
  unfold wants
  rw [(sees_more (us:=us) hs).1]
 ·cases hp
theorem rel_sees {w:Bytes} {p p' q q':M α} (hw:∀ us,S us→sees w us=none) (h1:Rel S e p p') (h2:Rel S e q q') :
 Rel S e (fun ts ns=>match sees w ts with | some ts1=>p ts1 ns | none=>q ts ns) (fun ts ns=>match sees w ts with | some ts1=>p' ts1 ns | none=>q' ts ns):=by
 intro ts ns a ts2 ns2 h
 dsimp only at h
 split at h
 ·rename_i ts1 hs
  obtain ⟨l1,k1⟩:=h1 _ _ _ _ _ h
  refine ⟨Nat.le_trans l1 (Nat.le_of_lt (sees_more (us:=[]) hs).2),fun us hu ns'=>?_⟩
  dsimp only
  rw [(sees_more (us:=us) hs).1]
  exact k1 us hu ns'
 ·rename_i hs
  obtain ⟨l1,k1⟩:=h2 _ _ _ _ _ h
  refine ⟨l1,fun us hu ns'=>?_⟩
  dsimp only
  rw [sees_none hs (fun x=>hw us (hu (List.eq_nil_of_length_eq_zero (by rw [x] at l1;simpa using l1))))]
  exact k1 us hu ns'
theorem rel_sees' {w:Bytes} {p p' q q':M α} (hq:∀ ns r,q [] ns≠.ok r) (h1:Rel S e p p') (h2:Rel S e q q') :
 Rel S e (fun ts ns=>match sees w ts with | some ts1=>p ts1 ns | none=>q ts ns) (fun ts ns=>match sees w ts with | some ts1=>p' ts1 ns | none=>q' ts ns):=by
 intro ts ns a ts2 ns2 h
 dsimp only at h
 split at h
 ·rename_i ts1 hs
  obtain ⟨l1,k1⟩:=h1 _ _ _ _ _ h
  refine ⟨Nat.le_trans l1 (Nat.le_of_lt (sees_more (us:=[]) hs).2),fun us hu ns'=>?_⟩
  dsimp only
  rw [(sees_more (us:=us) hs).1]
  exact k1 us hu ns'
 ·rename_i hs
  obtain ⟨l1,k1⟩:=h2 _ _ _ _ _ h
  refine ⟨l1,fun us hu ns'=>?_⟩
  dsimp only
  rw [sees_none hs (fun x=>by rw [x] at h;exact absurd h (hq _ _))]
  exact k1 us hu ns'
theorem rel_choice {l:List Bytes} {f g:Nat→M α} {z z':M α} (hz:∀ ns r,z [] ns≠.ok r) (h0:Rel S e z z') (h1:∀ k,Rel S e (f k) (g k)) :
 Rel S e (fun ts ns=>match choice l 1 ts with | (0,_)=>z ts ns | (k+1,ts1)=>f k ts1 ns) (fun ts ns=>match choice l 1 ts with | (0,_)=>z' ts ns | (k+1,ts1)=>g k ts1 ns):=by
 intro ts ns a ts2 ns2 h
 dsimp only at h
 have hne:ts ≠ []:=by
  rintro rfl
  rw [choice_nil] at h
  exact hz _ _ h
 split at h
 ·rename_i ts1 hs
  obtain ⟨l1,k1⟩:=h0 _ _ _ _ _ h
  refine ⟨l1,fun us hu ns'=>?_⟩
  dsimp only
  rw [(choice_more us hs hne).1]
  exact k1 us hu ns'
 ·rename_i k ts1 hs
  obtain ⟨l1,k1⟩:=h1 k _ _ _ _ _ h
  refine ⟨Nat.le_trans l1 (choice_more [] hs hne).2,fun us hu ns'=>?_⟩
  dsimp only
  rw [(choice_more us hs hne).1]
  exact k1 us hu ns'
theorem rel_fail {q:M α}:Rel S e M.fail q:=by
 intro ts ns b ts1 ns1 hp
 cases hp
theorem fail_nil (ns:List Nd) (r:α×List Tk×List Nd):(M.fail:M α) [] ns≠.ok r:=fun h=>by cases h
end
def Quits (us:List Tk):Prop:=sees kw_comma us=none∧sees kw_or us=none∧sees kw_and us=none∧sees kw_from us=none
def QuitsQ (us:List Tk):Prop:=Quits us∧sees kw_bar us=none
section
variable {e:Prop} {α:Type}
theorem rel_manyGo {f:M α} (hf:∀ {e:Prop},Rel Quits e f f):∀ (k:Nat) (acc acc':List α) {e:Prop},(e→acc'=acc)→Rel Quits e (manyGo f k acc) (manyGo f k acc')
 | 0,acc,acc',e,h=>rel_pure h
 | k+1,acc,acc',e,h=>by
   have h1:=rel_sees (S:=Quits) (e:=e) (w:=kw_comma) (p:=M.bind f (fun a=>manyGo f k (acc++[a]))) (p':=M.bind f (fun a=>manyGo f k (acc'++[a]))) (q:=M.pure acc) (q':=M.pure acc') (fun us hu=>hu.1)
    (rel_bind hf fun a a'=>rel_manyGo hf k _ _ (fun x=>by rw [h x.1,x.2])) (rel_pure h)
   intro ts ns b ts1 ns1 hp
   have:=h1 ts ns b ts1 ns1 (by
    rw [manyGo] at hp
    revert hp
    dsimp only
    cases sees kw_comma ts<;>exact fun x=>x)
   refine ⟨this.1,fun us hu ns'=>?_⟩
   obtain ⟨a',n',h2,h3⟩:=this.2 us hu ns'
   refine ⟨a',n',?_,h3⟩
   rw [← h2,manyGo]
   dsimp only
   cases sees kw_comma (ts++us)<;>rfl
theorem rel_many {f:M α} (hf:∀ {e:Prop},Rel Quits e f f):Rel Quits e (many f) (many f):=rel_bind hf fun a a'=>rel_manyGo hf fuel [a] [a'] (fun x=>by rw [x.2])
theorem rel_name:Rel Quits e name name:=rel_bind (rel_take 1) fun a a'=>rel_pure fun x=>by rw [x.2]
theorem rel_names:Rel Quits e names names:=rel_many rel_name
def aggF:Nat→M (Nat×Bytes)
 | 0=>M.pure (1,[])
 | k+1=>M.bind (take 1) (fun t=>M.pure (k+2,t.s))
theorem rel_agg:Rel Quits e agg agg:=by
 have h1:=rel_choice (S:=Quits) (e:=e) (l:=kw_aggs) (f:=aggF) (g:=aggF) (z:=M.fail) (z':=M.fail) fail_nil rel_fail (fun k=>by
  cases k with
  | zero=>exact rel_pure fun _=>rfl
  | succ k=>exact rel_bind (rel_take 1) fun a a'=>rel_pure fun x=>by rw [x.2])
 have e1:agg=fun ts ns=>match choice kw_aggs 1 ts with | (0,_)=>M.fail ts ns | (k+1,ts1)=>aggF k ts1 ns:=by
  funext ts ns
  unfold agg
  rcases choice kw_aggs 1 ts with ⟨_ | _ | k,ts1⟩<;>rfl
 rw [e1]
 exact h1
def valueT:M Val:=fun ts ns=>match ts with
 | []=>.error (0,false)
 | t::ts1=>if t.kind=2 then .ok (⟨1,t.n,[]⟩,ts1,ns) else if t.kind=3 then .ok (⟨2,0,t.s⟩,ts1,ns) else .error (ts1.length+1,false)
theorem value_eq (ts:List Tk) (ns:List Nd):value ts ns=match choice kw_bools 1 ts with
 | (1,ts1)=>.ok (⟨3,0,[]⟩,ts1,ns)
 | (2,ts1)=>.ok (⟨3,1,[]⟩,ts1,ns)
 | _=>valueT ts ns:=rfl
theorem rel_valueT:Rel Quits e valueT valueT:=by
 intro ts ns b ts1 ns1 hp
 cases ts with
 | nil=>cases hp
 | cons t r =>
   have ht:∀ us n',valueT ((t::r)++us) n'=if t.kind=2 then .ok (⟨1,t.n,[]⟩,r++us,n') else if t.kind=3 then .ok (⟨2,0,t.s⟩,r++us,n') else .error ((r++us).length+1,false):=fun _ _=>rfl
   have hp':(if t.kind=2 then .ok (⟨1,t.n,[]⟩,r,ns) else if t.kind=3 then .ok (⟨2,0,t.s⟩,r,ns) else .error (r.length+1,false):Except Er (Val×List Tk×List Nd))=.ok (b,ts1,ns1):=hp
   split at hp'
   ·rename_i c
    cases hp'
    exact ⟨by simp,fun us _ ns'=>⟨_,ns',by rw [ht,if_pos c],fun _ y=>⟨rfl,y⟩⟩⟩
   ·rename_i c
    split at hp'
    ·rename_i c2
     cases hp'
     exact ⟨by simp,fun us _ ns'=>⟨_,ns',by rw [ht,if_neg c,if_pos c2],fun _ y=>⟨rfl,y⟩⟩⟩
    ·cases hp'
theorem rel_value:Rel Quits e value value:=by
 intro ts ns b ts1 ns1 hp
 have hne:ts ≠ []:=by
  rintro rfl
  rw [value_eq,choice_nil] at hp
  cases hp
 rcases hc:choice kw_bools 1 ts with ⟨k,t3⟩
 rw [value_eq,hc] at hp
 have hm:=fun us=>(choice_more us hc hne).1
 have hl:=(choice_more [] hc hne).2
 have tail:valueT ts ns=.ok (b,ts1,ns1)→(∀ us n',value (ts++us) n'=valueT (ts++us) n')→ts1.length≤ts.length∧∀ us,(ts1=[]→Quits us)→∀ ns',∃ a' ns1',value (ts++us) ns'=.ok (a',ts1++us,ns1')∧(e→ns'=ns→a'=b∧ns1'=ns1):=by
  intro h1 h2
  have:=rel_valueT (e:=e) ts ns b ts1 ns1 h1
  exact ⟨this.1,fun us hu ns'=>by rw [h2];exact this.2 us hu ns'⟩
 match k,hc,hp,hm with
 | 0,hc,hp,hm=>exact tail hp fun us n'=>by rw [value_eq,hm us];rfl
 | 1,hc,hp,hm =>
   cases hp
   exact ⟨hl,fun us _ ns'=>⟨_,ns',by rw [value_eq,hm us];rfl,fun _ y=>⟨rfl,y⟩⟩⟩
 | 2,hc,hp,hm =>
   cases hp
   exact ⟨hl,fun us _ ns'=>⟨_,ns',by rw [value_eq,hm us];rfl,fun _ y=>⟨rfl,y⟩⟩⟩
 | k+3,hc,hp,hm=>exact tail hp fun us n'=>by rw [value_eq,hm us];rfl
theorem rel_leaf:Rel Quits e leaf leaf:=by
 refine rel_bind (rel_take 1) fun t t'=>?_
 have h1:Rel Quits (e∧t'=t) (fun ts ns=>match choice kw_signs 1 ts with
  | (0,_)=>M.fail ts ns
  | (k+1,ts1)=>M.bind value (fun v=>lay {node 14 [] with s:=t.s,n:=((k+1:Nat):Int),v:=v}) ts1 ns) (fun ts ns=>match choice kw_signs 1 ts with
  | (0,_)=>M.fail ts ns
  | (k+1,ts1)=>M.bind value (fun v=>lay {node 14 [] with s:=t'.s,n:=((k+1:Nat):Int),v:=v}) ts1 ns) :=
  rel_choice (f:=fun k=>M.bind value (fun v=>lay {node 14 [] with s:=t.s,n:=((k+1:Nat):Int),v:=v})) (g:=fun k=>M.bind value (fun v=>lay {node 14 [] with s:=t'.s,n:=((k+1:Nat):Int),v:=v})) fail_nil rel_fail
   (fun k=>rel_bind rel_value fun v v'=>rel_lay fun x=>by rw [x.1.2,x.2])
 exact rel_sees' (w:=kw_has) (p:=M.bind (take 3) (fun u=>lay {node 15 [] with s:=t.s,v:=⟨2,0,u.s⟩})) (p':=M.bind (take 3) (fun u=>lay {node 15 [] with s:=t'.s,v:=⟨2,0,u.s⟩}))
  (fun ns r h=>by
   dsimp only at h
   rw [choice_nil] at h
   cases h) (rel_bind (rel_take 3) fun u u'=>rel_lay fun x=>by rw [x.1.2,x.2]) h1
theorem rel_joinedGo {w:Bytes} {kind:Nat} {p q:M Nat} (hw:w=kw_or∨w=kw_and) (h:∀ {e:Prop},Rel Quits e p q):∀ (k a a':Nat) {e:Prop},(e→a'=a)→Rel Quits e (joinedGo w kind p k a) (joinedGo w kind q k a')
 | 0,a,a',e,hh=>rel_pure hh
 | k+1,a,a',e,hh=>by
   have h1:=rel_sees (S:=Quits) (e:=e) (w:=w) (p:=M.bind p (fun b=>M.bind (lay (node kind [a,b])) (joinedGo w kind p k))) (p':=M.bind q (fun b=>M.bind (lay (node kind [a',b])) (joinedGo w kind q k))) (q:=M.pure a) (q':=M.pure a')
    (fun us hu=>(by rcases hw with rfl | rfl;exact hu.2.1;exact hu.2.2.1))
    (rel_bind h fun b b'=>rel_bind (rel_lay fun x=>by rw [hh x.1,x.2]) fun c c'=>rel_joinedGo hw h k _ _ (fun x=>x.2)) (rel_pure hh)
   intro ts ns b ts1 ns1 hp
   have:=h1 ts ns b ts1 ns1 (by
    rw [joinedGo] at hp
    revert hp
    dsimp only
    cases sees w ts<;>exact fun x=>x)
   refine ⟨this.1,fun us hu ns'=>?_⟩
   obtain ⟨a',n',h2,h3⟩:=this.2 us hu ns'
   refine ⟨a',n',?_,h3⟩
   rw [← h2,joinedGo]
   dsimp only
   cases sees w (ts++us)<;>rfl
theorem rel_joined {w:Bytes} {kind:Nat} {p q:M Nat} (hw:w=kw_or∨w=kw_and) (h:∀ {e:Prop},Rel Quits e p q):Rel Quits e (joined w kind p) (joined w kind q) :=
 rel_bind h fun a a'=>rel_joinedGo hw h fuel a a' fun x=>x.2
theorem rel_cond {p q:M Nat} (h:∀ {e:Prop},Rel Quits e p q):Rel Quits e (condOf p) (condOf q):=rel_joined (.inl rfl) (rel_joined (.inr rfl) h)
theorem rel_shut {S:List Tk→Prop} {p q:M Nat} (h:Rel S e p q):Rel Quits e (shut p) (shut q):=by
 intro ts ns b ts2 ns2 hp
 rcases hpa:p ts ns with er | ⟨a,ts1,ns1⟩
 ·unfold shut M.bind at hp
  rw [hpa] at hp
  cases hp
 ·obtain ⟨l1,k1⟩:=h _ _ _ _ _ hpa
  rcases hw:wants kw_shut ts1 ns1 with er | ⟨u,ts3,ns3⟩
  ·unfold shut M.bind at hp
   rw [hpa] at hp
   dsimp only at hp
   rw [hw] at hp
   cases hp
  ·unfold shut M.bind at hp
   rw [hpa] at hp
   dsimp only at hp
   rw [hw] at hp
   cases hp
   have hne:ts1 ≠ []:=by
    rintro rfl
    cases hw
   obtain ⟨l3,k3⟩:=rel_wants (S:=Quits) (e:=True) kw_shut _ _ _ _ _ hw
   refine ⟨Nat.le_trans l3 l1,fun us hu ns'=>?_⟩
   obtain ⟨a',n1',h1,e1⟩:=k1 us (fun x=>absurd x hne) ns'
   obtain ⟨_,n3',h3,e3⟩:=k3 us hu n1'
   refine ⟨a',n3',?_,fun x y=>⟨(e1 x y).1,(e3 trivial (e1 x y).2).2⟩⟩
   unfold shut M.bind
   rw [h1]
   dsimp only
   rw [h3]
   rfl
theorem rel_notOf {p p' q q':M Nat} (h1:Rel Quits e p p') (h2:Rel Quits e q q'):Rel Quits e (notOf p q) (notOf p' q') :=
 rel_sees' (w:=kw_not) (p:=M.bind p (fun a=>lay (node 13 [a]))) (p':=M.bind p' (fun a=>lay (node 13 [a])))
  (q:=fun ts ns=>match sees kw_open ts with | some ts1=>q ts1 ns | none=>leaf ts ns) (q':=fun ts ns=>match sees kw_open ts with | some ts1=>q' ts1 ns | none=>leaf ts ns) (fun ns r h=>by cases h)
  (rel_bind h1 fun a a'=>rel_lay fun x=>by rw [x.2]) (rel_sees' (w:=kw_open) (fun ns r h=>by cases h) h2 rel_leaf)
theorem rel_not:∀ (d c:Nat) {e:Prop},Rel Quits e (pNot d) (pNot (d+c))
 | 0,c,e=>by
   rw [Nat.zero_add]
   cases c with
   | zero=>exact rel_notOf rel_deep rel_deep
   | succ c=>exact rel_notOf rel_deep rel_deep
 | d+1,c,e=>by
   rw [Nat.add_right_comm]
   exact rel_notOf (rel_not d c) (rel_shut (rel_cond (rel_not d c)))
theorem rel_pCond (d c:Nat):Rel Quits e (pCond d) (pCond (d+c)):=rel_cond (rel_not d c)
end
end Go.Proofs.YtnaehhpikhlppaaGreatDoor.ParS

namespace Go.Proofs.YtnaehhpikhlppaaGreatDoor
open Go.RowKit LexS ParS BigFrame
attribute [local go_sem] field_tok1 field_tok2
attribute [local go_sem] World.cell?_alloc_some cell_drewN_new free_drewN_new cell_drew_new free_drew_new
abbrev valA (v:Val):Array Value:=#[.int .i64 (v.kind:Int),.int .i64 v.n,.string (BA v.s),.int .i64 0,.int .i64 0,.int .i64 0,.int .i64 0,.int .i64 0,.int .i64 0,.int .i64 0,.int .i64 0]
abbrev zeroVal:Array Value:=#[.int .i64 0,.int .i64 0,.string ⟨#[]⟩,.int .i64 0,.int .i64 0,.int .i64 0,.int .i64 0,.int .i64 0,.int .i64 0,.int .i64 0,.int .i64 0]
def PostM (base r:Nat) (tv:Value) (T:List Tok) (deep:Nat) (nv:Value) (W:World) {α:Type} (val:α→Value→Prop) (x:Except Er (α×List Tk×List Nd)) (e:Ending) (W':World):Prop:=match x with
 | .error (k,long)=>e=Bad T k long∧Mv r W W'
 | .ok (a,ts1,ns1) => ∃ v,e=.returned v∧val a v∧RS base r tv T deep ts1 ns1 nv W'∧Mv r W W'
theorem take_ok {k:Nat} {t:Tk} {ts1:List Tk} {ns:List Nd} (h:t.kind=k):take k (t::ts1) ns=.ok (t,ts1,ns):=by
 have e:take k (t::ts1) ns=if t.kind=k then .ok (t,ts1,ns) else .error (ts1.length+1,false):=rfl
 rw [e,if_pos h]
theorem take_bad {k:Nat} {ts:List Tk} {ns:List Nd} (h:∀ t ts1,ts=t::ts1→t.kind≠k):take k ts ns=.error (ts.length,false):=by
 cases ts with
 | nil=>rfl
 | cons t ts1 =>
   have e:take k (t::ts1) ns=if t.kind=k then .ok (t,ts1,ns) else .error (ts1.length+1,false):=rfl
   rw [e,if_neg (h t ts1 rfl)]
   rfl
theorem take_cases (k:Nat) (ts:List Tk):(∃ t ts1,ts=t::ts1∧t.kind=k)∨∀ t ts1,ts=t::ts1→t.kind≠k:=by
 cases ts with
 | nil=>exact .inr fun t ts1 h=>by cases h
 | cons t ts1 =>
   by_cases h:t.kind=k
   ·exact .inl ⟨t,ts1,rfl,h⟩
   ·exact .inr fun u us e=>by cases e;exact h
theorem choice_zero:∀ {l:List Bytes} {i:Nat} {ts ts2:List Tk},0<i→choice l i ts=(0,ts2)→ts2=ts
 | [],i,ts,ts2,h,e=>by cases e;rfl
 | w::l,i,ts,ts2,h,e=>by
   unfold choice at e
   split at e
   ·injection e with e1 e2
    omega
   ·exact choice_zero (Nat.succ_pos i) e
theorem RS.tok {base r deep:Nat} {tv nv:Value} {T:List Tok} {ts:List Tk} {ns:List Nd} {W:World} (h:RS base r tv T deep ts ns nv W):∃ p cap,tv=.slice p T.length cap∧T.length≤cap∧∀ t ts1,ts=t::ts1→∃ g u,p=some ⟨g,0,none⟩∧tk u=t∧T.length-ts.length<T.length∧g<W.heap.size ∧
 W.cell? ⟨g,(T.length-ts.length)*4,none⟩=some (.int .i64 (t.kind:Int)):=by
 obtain ⟨p,cap,rfl,hcap,hmax,hrow⟩:=row_any h.toks
 refine ⟨p,cap,rfl,hcap,fun t ts1 ht=>?_⟩
 obtain ⟨u,hu,hut,hlt⟩:=tok_at h.suf h.short ht
 obtain ⟨g,rfl,_,hg,hcells⟩:=hrow (by rintro rfl;simp at hlt)
 exact ⟨g,u,rfl,hut,hlt,hg,by rw [← hut];exact (hcells _ u hu).1⟩
def putVal (w:World) (b:Nat) (v:Val):World:=((((((((((w.setCell ⟨b,0,none⟩ (.int .i64 (v.kind:Int))).setCell ⟨b,1,none⟩ (.int .i64 v.n)).setCell ⟨b,2,none⟩ (.string (BA v.s))).setCell ⟨b,3,none⟩ (.int .i64 0)).setCell ⟨b,4,none⟩ (.int .i64 0)).setCell ⟨b,5,none⟩ (.int .i64 0)).setCell ⟨b,6,none⟩ (.int .i64 0)).setCell ⟨b,7,none⟩ (.int .i64 0)).setCell ⟨b,8,none⟩ (.int .i64 0)).setCell ⟨b,9,none⟩ (.int .i64 0)).setCell ⟨b,10,none⟩ (.int .i64 0)
theorem putVal_blk {w:World} {b:Nat} {v:Val} {c0 c1 c2 c3 c4 c5 c6 c7 c8 c9 c10:Value} (h:Blk w b 37 #[c0,c1,c2,c3,c4,c5,c6,c7,c8,c9,c10]):Blk (putVal w b v) b 37 (valA v):=by
 replace h:=h.put 0 (.int .i64 (v.kind:Int))
 simp only [List.setIfInBounds_toArray,List.set_cons_zero,List.set_cons_succ] at h
 replace h:=h.put 1 (.int .i64 v.n)
 simp only [List.setIfInBounds_toArray,List.set_cons_zero,List.set_cons_succ] at h
 replace h:=h.put 2 (.string (BA v.s))
 simp only [List.setIfInBounds_toArray,List.set_cons_zero,List.set_cons_succ] at h
 replace h:=h.put 3 (.int .i64 0)
 simp only [List.setIfInBounds_toArray,List.set_cons_zero,List.set_cons_succ] at h
 replace h:=h.put 4 (.int .i64 0)
 simp only [List.setIfInBounds_toArray,List.set_cons_zero,List.set_cons_succ] at h
 replace h:=h.put 5 (.int .i64 0)
 simp only [List.setIfInBounds_toArray,List.set_cons_zero,List.set_cons_succ] at h
 replace h:=h.put 6 (.int .i64 0)
 simp only [List.setIfInBounds_toArray,List.set_cons_zero,List.set_cons_succ] at h
 replace h:=h.put 7 (.int .i64 0)
 simp only [List.setIfInBounds_toArray,List.set_cons_zero,List.set_cons_succ] at h
 replace h:=h.put 8 (.int .i64 0)
 simp only [List.setIfInBounds_toArray,List.set_cons_zero,List.set_cons_succ] at h
 replace h:=h.put 9 (.int .i64 0)
 simp only [List.setIfInBounds_toArray,List.set_cons_zero,List.set_cons_succ] at h
 replace h:=h.put 10 (.int .i64 0)
 simp only [List.setIfInBounds_toArray,List.set_cons_zero,List.set_cons_succ] at h
 exact h
theorem putVal_far {w:World} {b g:Nat} {v:Val} {t:TypeId} {cs:Array Value} (h:Blk w g t cs) (hg:g≠b):Blk (putVal w b v) g t cs :=
 ((((((((((h.far hg _).far hg _).far hg _).far hg _).far hg _).far hg _).far hg _).far hg _).far hg _).far hg _).far hg _
theorem putVal_mv {w W:World} {r b:Nat} {v:Val} (h:Mv r W w) (hb:W.heap.size≤b):Mv r W (putVal w b v) :=
 ((((((((((h.far hb _ _).far hb _ _).far hb _ _).far hb _ _).far hb _ _).far hb _ _).far hb _ _).far hb _ _).far hb _ _).far hb _ _).far hb _ _
section
variable {base r deep:Nat} {tv nv nv':Value} {T:List Tok} {ts ts1:List Tk} {ns:List Nd} {W W':World}
theorem valA_read {f:Func} {q g:Nat} {tmps:Array Value} {w:World} (hf:f.results=#[.cell q 37]) (ht:tmps[q]?.getD undef=.pointer (some ⟨g,0,none⟩)) (v:Val) (h:Blk w g 37 (valA v)):(results f tmps).run Tryz.prog w=.ok (.agg (valA v)) w:=by
 have h0:=h.cell 0
 have h1:=h.cell 1
 have h2:=h.cell 2
 have h3:=h.cell 3
 have h4:=h.cell 4
 have h5:=h.cell 5
 have h6:=h.cell 6
 have h7:=h.cell 7
 have h8:=h.cell 8
 have h9:=h.cell 9
 have h10:=h.cell 10
 simp [results,hf,go_sem,ht,h0,h1,h2,h3,h4,h5,h6,h7,h8,h9,h10]
theorem val_ret {v:Val} {ts2:List Tk} {w1:World} (h:RS base r tv T deep ts ns nv W) (h1:RS base r tv T deep ts2 ns nv w1) (m:Mv r W w1) (x:Blk w1 W.heap.size 37 zeroVal) (nr:r≠W.heap.size) :
 Blk (putVal w1 W.heap.size v) W.heap.size 37 (valA v)∧RS base r tv T deep ts2 ns nv (putVal w1 W.heap.size v)∧Mv r W (putVal w1 W.heap.size v) :=
 ⟨putVal_blk x,h.again (putVal_mv m (Nat.le_refl _)) (putVal_far h1.box nr) h1.suf h1.short,putVal_mv m (Nat.le_refl _)⟩
theorem value_any (h:RS base r tv T deep ts ns nv W):Calls Tryz.prog 207 #[RP r] W (PostM base r tv T deep nv W (fun (v:Val) x=>x=.agg (valA v)) (value ts ns)):=by
 obtain ⟨W1,hW1⟩:∃ W1,W1=(W.alloc (.cells zeroVal 37)).alloc (.cells #[.string ⟨#[102,97,108,115,101]⟩,.string ⟨#[116,114,117,101]⟩] 9):=⟨_,rfl⟩
 have hb1:Below W.heap.size W W1:=by rw [hW1];exact ((Below.refl _ _).alloc (Nat.le_refl _) _).alloc (by simp) _
 have hx:Blk W1 W.heap.size 37 zeroVal:=by rw [hW1];exact (Blk.new W _ _).alloc _
 have hl:Blk W1 (W.heap.size+1) 9 (strsL kw_bools).toArray:=by
  rw [hW1]
  have:=Blk.new (W.alloc (.cells zeroVal 37)) 9 (strsL kw_bools).toArray
  rw [World.size_alloc] at this
  exact this
 have hc:=choice_any (h.kept hb1) hl (by decide)
 have hcl:=choice_le kw_bools 1 ts (by decide)
 have HV:=Lib.hid (value_eq ts ns)
 have HC:=Lib.hid hc
 have HW:=Lib.hid hW1
 have HX:=Lib.hid hx
 have HB:=Lib.hid hb1
 have nr:r≠W.heap.size:=Nat.ne_of_lt h.box.lt
 have HR:=Lib.hid h
 clear h hb1 hx hl hc
 go_enter Tryz.func207,Tryz.ntmps207
 go_wp2_with fail
 rw [show (W.alloc (.cells zeroVal 37)).alloc (.cells #[.string ⟨#[102,97,108,115,101]⟩,.string ⟨#[116,114,117,101]⟩] 9)=W1 from HW.out.symm]
 clear hW1
 refine HC.out.mono ?_
 rintro e w1 ⟨rfl,h1,m1⟩
 rcases hch:choice kw_bools 1 ts with ⟨k,ts2⟩
 rw [hch] at h1 hcl
 dsimp only at h1 hcl
 have M1:=Lib.hid ((Stp.of (r:=r) (nv:=.slice none 0 0) HB.out).trans m1)
 have X1:=Lib.hid (m1.blk HX.out nr.symm)
 have H1:=Lib.hid h1
 have HCH:=Lib.hid hch
 clear h1 m1 hch
 dsimp only
 have e0:w1.cell? ⟨W.heap.size,0,none⟩=some (.int .i64 0):=X1.out.cell 0
 have e1:w1.cell? ⟨W.heap.size,1,none⟩=some (.int .i64 0):=X1.out.cell 1
 have e2:w1.cell? ⟨W.heap.size,2,none⟩=some (.string ⟨#[]⟩):=X1.out.cell 2
 have e3:w1.cell? ⟨W.heap.size,3,none⟩=some (.int .i64 0):=X1.out.cell 3
 have e4:w1.cell? ⟨W.heap.size,4,none⟩=some (.int .i64 0):=X1.out.cell 4
 have e5:w1.cell? ⟨W.heap.size,5,none⟩=some (.int .i64 0):=X1.out.cell 5
 have e6:w1.cell? ⟨W.heap.size,6,none⟩=some (.int .i64 0):=X1.out.cell 6
 have e7:w1.cell? ⟨W.heap.size,7,none⟩=some (.int .i64 0):=X1.out.cell 7
 have e8:w1.cell? ⟨W.heap.size,8,none⟩=some (.int .i64 0):=X1.out.cell 8
 have e9:w1.cell? ⟨W.heap.size,9,none⟩=some (.int .i64 0):=X1.out.cell 9
 have e10:w1.cell? ⟨W.heap.size,10,none⟩=some (.int .i64 0):=X1.out.cell 10
 have f:=X1.out.free
 have f0:=f 0
 have f1:=f 1
 have f2:=f 2
 have f3:=f 3
 have f4:=f 4
 have f5:=f 5
 have f6:=f 6
 have f7:=f 7
 have f8:=f 8
 have f9:=f 9
 have f10:=f 10
 clear f
 have hk:k=0∨k=1∨k=2∨3≤k:=by omega
 rcases hk with rfl | rfl | rfl | hk
 ·have hz:ts2=ts:=choice_zero (by decide) HCH.out
  subst hz
  obtain ⟨p,cap,rfl,hcap,hcells⟩:=H1.out.tok
  have hfew:=H1.out.few
  obtain ⟨i,hi⟩:∃ i,i=T.length-ts2.length:=⟨_,rfl⟩
  have c0:w1.cell? ⟨r,0,none⟩=some (.slice p T.length cap):=H1.out.box.cell 0
  have c1:w1.cell? ⟨r,1,none⟩=some (.int .i64 (i:Int)):=by rw [hi];exact H1.out.box.cell 1
  have HQ:=Lib.hid (fun n=>H1.out.kept (below_drewN (Below.refl w1.heap.size w1) n))
  have MQ:=Lib.hid (fun n=>(M1.out).trans (Stp.of (r:=r) (nv:=.slice none 0 0) (below_drewN (Below.refl w1.heap.size w1) n)))
  have XQ:=Lib.hid (fun n=>(X1.out.drewN n))
  have HV2:=Lib.hid (show value ts2 ns=valueT ts2 ns by rw [HV.out,HCH.out];rfl)
  rcases take_cases 2 ts2 with ⟨t,ts3,ht,hk2⟩ | hk2
  ·obtain ⟨g,u,rfl,hut,hlt,hg,hc⟩:=hcells t ts3 ht
   rw [← hi] at hlt hc
   rw [hk2] at hc
   have q1:(i:Int)<(T.length:Int):=by omega
   have q2:decide ((i:Int)<(T.length:Int))=true:=decide_eq_true q1
   have q3:decide (i<T.length)=true:=decide_eq_true hlt
   have q4:(0:Int)≤(i:Int):=by omega
   have q6:(((2:Nat):Int) == 2)=true:=by decide
   have HV3:=Lib.hid (show value ts2 ns=.ok (⟨1,t.n,[]⟩,ts3,ns) by rw [HV2.out,ht];exact if_pos hk2)
   have HN:=Lib.hid (fun n=>number_yes (HQ.out n) ht hk2)
   clear hcells hi hut ht hk2 hcl
   go_wp2_with fail
   go_big_quiet (fail)
   go_wp2_with fail
   refine (HN.out _).mono ?_
   rintro e w2 ⟨rfl,h2,m2⟩
   have X2:=Lib.hid (m2.blk (XQ.out nq) nr.symm)
   have M2:=Lib.hid ((MQ.out nq).trans m2)
   have H2:=Lib.hid h2
   clear h2 m2 e0 e1 e2 e3 e4 e5 e6 e7 e8 e9 e10 f0 f1 f2 f3 f4 f5 f6 f7 f8 f9 f10
   have e0:w2.cell? ⟨W.heap.size,0,none⟩=some (.int .i64 0):=X2.out.cell 0
   have e1:w2.cell? ⟨W.heap.size,1,none⟩=some (.int .i64 0):=X2.out.cell 1
   have e2:w2.cell? ⟨W.heap.size,2,none⟩=some (.string ⟨#[]⟩):=X2.out.cell 2
   have e3:w2.cell? ⟨W.heap.size,3,none⟩=some (.int .i64 0):=X2.out.cell 3
   have e4:w2.cell? ⟨W.heap.size,4,none⟩=some (.int .i64 0):=X2.out.cell 4
   have e5:w2.cell? ⟨W.heap.size,5,none⟩=some (.int .i64 0):=X2.out.cell 5
   have e6:w2.cell? ⟨W.heap.size,6,none⟩=some (.int .i64 0):=X2.out.cell 6
   have e7:w2.cell? ⟨W.heap.size,7,none⟩=some (.int .i64 0):=X2.out.cell 7
   have e8:w2.cell? ⟨W.heap.size,8,none⟩=some (.int .i64 0):=X2.out.cell 8
   have e9:w2.cell? ⟨W.heap.size,9,none⟩=some (.int .i64 0):=X2.out.cell 9
   have e10:w2.cell? ⟨W.heap.size,10,none⟩=some (.int .i64 0):=X2.out.cell 10
   have f:=X2.out.free
   have f0:=f 0
   have f1:=f 1
   have f2:=f 2
   have f3:=f 3
   have f4:=f 4
   have f5:=f 5
   have f6:=f 6
   have f7:=f 7
   have f8:=f 8
   have f9:=f 9
   have f10:=f 10
   clear f
   go_wp2_with fail
   have H3:=val_ret (v:=⟨1,t.n,[]⟩) HR.out H2.out M2.out X2.out nr
   exact bodyPost_ret (valA_read Tryz.results207 rfl _ H3.1) rfl (by rw [HV3.out];exact ⟨_,rfl,rfl,H3.2⟩)
  ·have q2b:(ts2=[]∧i=T.length)∨∃ t ts3,ts2=t::ts3∧t.kind≠2:=by
    cases ts2 with
    | nil=>exact .inl ⟨rfl,hi⟩
    | cons t ts3=>exact .inr ⟨t,ts3,rfl,hk2 t ts3 rfl⟩
   have q4:(0:Int)≤(i:Int):=by omega
   rcases q2b with ⟨ht,hiT⟩ | ⟨t,ts3,ht,hk⟩
   ·have q1:¬ ((i:Int)<(T.length:Int)):=by omega
    have q2:decide ((i:Int)<(T.length:Int))=false:=decide_eq_false q1
    have q3:decide (i<T.length)=false:=decide_eq_false (by omega)
    have HV3:=Lib.hid (show value ts2 ns=.error (ts2.length,false) by rw [HV2.out,ht];rfl)
    have HN:=Lib.hid (fun n=>take_no (k:=3) (HQ.out n) (fun t ts1 h=>by rw [ht] at h;cases h))
    clear hcells hi ht hk2 hcl hiT
    go_wp2_with fail
    go_big_quiet (fail)
    go_wp2_with fail
    refine (HN.out _).mono ?_
    rintro e w2 ⟨rfl,m2⟩
    have M2:=Lib.hid ((MQ.out nq).trans m2)
    clear m2
    unfold Bad
    go_wp2_with fail
    exact ⟨rfl,by rw [HV3.out];exact ⟨rfl,M2.out⟩⟩
   ·obtain ⟨g,u,rfl,hut,hlt,hg,hc⟩:=hcells t ts3 ht
    rw [← hi] at hlt hc
    obtain ⟨kd,hkd⟩:∃ kd,kd=t.kind:=⟨_,rfl⟩
    rw [← hkd] at hc hk
    have q1:(i:Int)<(T.length:Int):=by omega
    have q2:decide ((i:Int)<(T.length:Int))=true:=decide_eq_true q1
    have q3:decide (i<T.length)=true:=decide_eq_true hlt
    have q6:((kd:Int) == 2)=false:=by rw [beq_eq_false_iff_ne];omega
    by_cases h3:t.kind=3
    ·have HV3:=Lib.hid (show value ts2 ns=.ok (⟨2,0,t.s⟩,ts3,ns) by rw [HV2.out,ht];exact (if_neg (by omega)).trans (if_pos h3))
     have HN:=Lib.hid (fun n=>take_yes (HQ.out n) ht)
     rw [h3] at HN
     clear hcells hi hut ht hk2 hcl hkd hk h3
     go_wp2_with fail
     go_big_quiet (fail)
     go_wp2_with fail
     refine (HN.out _).mono ?_
     rintro e w2 ⟨v,rfl,⟨a,rfl⟩,h2,m2⟩
     have X2:=Lib.hid (m2.blk (XQ.out nq) nr.symm)
     have M2:=Lib.hid ((MQ.out nq).trans m2)
     have H2:=Lib.hid h2
     clear h2 m2 e0 e1 e2 e3 e4 e5 e6 e7 e8 e9 e10 f0 f1 f2 f3 f4 f5 f6 f7 f8 f9 f10
     have e0:w2.cell? ⟨W.heap.size,0,none⟩=some (.int .i64 0):=X2.out.cell 0
     have e1:w2.cell? ⟨W.heap.size,1,none⟩=some (.int .i64 0):=X2.out.cell 1
     have e2:w2.cell? ⟨W.heap.size,2,none⟩=some (.string ⟨#[]⟩):=X2.out.cell 2
     have e3:w2.cell? ⟨W.heap.size,3,none⟩=some (.int .i64 0):=X2.out.cell 3
     have e4:w2.cell? ⟨W.heap.size,4,none⟩=some (.int .i64 0):=X2.out.cell 4
     have e5:w2.cell? ⟨W.heap.size,5,none⟩=some (.int .i64 0):=X2.out.cell 5
     have e6:w2.cell? ⟨W.heap.size,6,none⟩=some (.int .i64 0):=X2.out.cell 6
     have e7:w2.cell? ⟨W.heap.size,7,none⟩=some (.int .i64 0):=X2.out.cell 7
     have e8:w2.cell? ⟨W.heap.size,8,none⟩=some (.int .i64 0):=X2.out.cell 8
     have e9:w2.cell? ⟨W.heap.size,9,none⟩=some (.int .i64 0):=X2.out.cell 9
     have e10:w2.cell? ⟨W.heap.size,10,none⟩=some (.int .i64 0):=X2.out.cell 10
     have f:=X2.out.free
     have f0:=f 0
     have f1:=f 1
     have f2:=f 2
     have f3:=f 3
     have f4:=f 4
     have f5:=f 5
     have f6:=f 6
     have f7:=f 7
     have f8:=f 8
     have f9:=f 9
     have f10:=f 10
     clear f
     go_wp2_with fail
     have H3:=val_ret (v:=⟨2,0,t.s⟩) HR.out H2.out M2.out X2.out nr
     exact bodyPost_ret (valA_read Tryz.results207 rfl _ H3.1) rfl (by rw [HV3.out];exact ⟨_,rfl,rfl,H3.2⟩)
    ·have HV3:=Lib.hid (show value ts2 ns=.error (ts2.length,false) by rw [HV2.out,ht];exact (if_neg (by omega)).trans (if_neg h3))
     have HN:=Lib.hid (fun n=>take_no (k:=3) (HQ.out n) (fun u us h=>by rw [ht] at h;cases h;exact h3))
     clear hcells hi hut ht hk2 hcl hkd hk h3
     go_wp2_with fail
     go_big_quiet (fail)
     go_wp2_with fail
     refine (HN.out _).mono ?_
     rintro e w2 ⟨rfl,m2⟩
     have M2:=Lib.hid ((MQ.out nq).trans m2)
     clear m2
     unfold Bad
     go_wp2_with fail
     exact ⟨rfl,by rw [HV3.out];exact ⟨rfl,M2.out⟩⟩
 ·go_wp2_with fail
  have H2:=val_ret (v:=⟨3,0,[]⟩) HR.out H1.out M1.out X1.out nr
  exact bodyPost_ret (valA_read Tryz.results207 rfl _ H2.1) rfl (by rw [show value ts ns=.ok (⟨3,0,[]⟩,ts2,ns) by rw [HV.out,HCH.out];rfl];exact ⟨_,rfl,rfl,H2.2⟩)
 ·go_wp2_with fail
  have H2:=val_ret (v:=⟨3,1,[]⟩) HR.out H1.out M1.out X1.out nr
  exact bodyPost_ret (valA_read Tryz.results207 rfl _ H2.1) rfl (by rw [show value ts ns=.ok (⟨3,1,[]⟩,ts2,ns) by rw [HV.out,HCH.out];rfl];exact ⟨_,rfl,rfl,H2.2⟩)
 ·exfalso
  simp [kw_bools] at hcl
  omega
end
end Go.Proofs.YtnaehhpikhlppaaGreatDoor

namespace Go.Proofs.YtnaehhpikhlppaaGreatDoor
open Go.RowKit LexS ParS BigFrame
theorem two_allocs (w:World) (a b:Obj):Below w.heap.size w ((w.alloc a).alloc b):=((Below.refl _ _).alloc (Nat.le_refl _) _).alloc (by rw [World.size_alloc];omega) _
abbrev zero8b:Value:=.agg #[.int .i64 0,.int .i64 0,.int .i64 0,.int .i64 0,.int .i64 0,.int .i64 0,.int .i64 0,.int .i64 0]
theorem eqZeroB (W:World):(Op.equalIn 9999 35 zero8b zero8b).run Tryz.prog W=.ok true W:=by kernel_rfl
attribute [local go_sem] eqZeroB
theorem valid_int (n:Int) (w:World) :
 Calls Tryz.prog 85 #[.agg (valA ⟨1,n,[]⟩)] w fun e w'=>e=.returned (.bool true)∧Below w.heap.size w w':=by
 go_enter Tryz.func85,Tryz.ntmps85
 go_wp2_with fail
 exact bodyPost_ret (results_tmp rfl _ _ _) rfl ⟨rfl,two_allocs _ _ _⟩
theorem valid_str (s:Bytes) (hs:s.length≤64) (w:World) :
 Calls Tryz.prog 85 #[.agg (valA ⟨2,0,s⟩)] w fun e w'=>e=.returned (.bool true)∧Below w.heap.size w w':=by
 have b1:((BA s).size:Int)≤64:=by show ((s.toArray.size:Nat):Int)≤64;simp;omega
 have b1':decide (((BA s).size:Int)≤64)=true:=decide_eq_true b1
 have b2:(BA s).size≤64:=by omega
 have b2':decide ((BA s).size≤64)=true:=decide_eq_true b2
 go_enter Tryz.func85,Tryz.ntmps85
 go_wp2_with fail
 exact bodyPost_ret (results_tmp rfl _ _ _) rfl ⟨rfl,two_allocs _ _ _⟩
theorem valid_bool (n:Int) (hn:n=0∨n=1) (w:World) :
 Calls Tryz.prog 85 #[.agg (valA ⟨3,n,[]⟩)] w fun e w'=>e=.returned (.bool true)∧Below w.heap.size w w':=by
 go_enter Tryz.func85,Tryz.ntmps85
 rcases hn with rfl | rfl
 ·go_wp2_with fail
  exact bodyPost_ret (results_tmp rfl _ _ _) rfl ⟨rfl,two_allocs _ _ _⟩
 ·go_wp2_with fail
  exact bodyPost_ret (results_tmp rfl _ _ _) rfl ⟨rfl,two_allocs _ _ _⟩
end Go.Proofs.YtnaehhpikhlppaaGreatDoor
