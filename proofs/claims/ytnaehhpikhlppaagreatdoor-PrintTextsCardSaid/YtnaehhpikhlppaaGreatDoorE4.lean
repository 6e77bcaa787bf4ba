/- Several texts of the proof, joined. -/
import Derived.Test.YtnaehhpikhlppaaGreatDoorE3
set_option maxHeartbeats 4000000
set_option maxRecDepth 100000
set_option linter.unusedVariables false
set_option linter.unusedSimpArgs false
namespace Go.Proofs.YtnaehhpikhlppaaGreatDoor.ParS
open LexS
inductive CT:Nat→List Nd→Prop
 | leaf (b:Nat) (n:Nd):n.kind=14∨n.kind=15→n.l=[]→CT b [n]
 | un (b:Nat) (ts:List Nd) (n:Nd):CT b ts→n.kind=13→n.l=[b+ts.length-1]→CT b (ts++[n])
 | bin (b:Nat) (ts us:List Nd) (n:Nd):CT b ts→CT (b+ts.length) us→n.kind=11∨n.kind=12→n.l=[b+ts.length-1,b+ts.length+us.length-1]→CT b (ts++us++[n])
inductive QT:Nat→List Nd→Prop
 | fetch (b:Nat) (n:Nd):n.kind=1→n.l=[]→QT b [n]
 | step (b:Nat) (ts:List Nd) (n:Nd):QT b ts→(n.kind=3∨n.kind=4∨n.kind=5∨n.kind=6)→n.l=[b+ts.length-1]→QT b (ts++[n])
 | where_ (b:Nat) (ts us:List Nd) (n:Nd):QT b ts→CT (b+ts.length) us→n.kind=2→n.l=[b+ts.length-1,b+ts.length+us.length-1]→QT b (ts++us++[n])
 | join (b:Nat) (ts us:List Nd) (n:Nd):QT b ts→QT (b+ts.length) us→n.kind=7∨n.kind=8→n.l=[b+ts.length-1,b+ts.length+us.length-1]→QT b (ts++us++[n])
theorem bind_ok {α β:Type} {p:M α} {f:α→M β} {ts:List Tk} {ns:List Nd} {r:β×List Tk×List Nd} (h:M.bind p f ts ns=.ok r):∃ a ts1 ns1,p ts ns=.ok (a,ts1,ns1)∧f a ts1 ns1=.ok r:=by
 unfold M.bind at h
 split at h
 ·cases h
 ·rename_i a ts1 ns1 e
  exact ⟨a,ts1,ns1,e,h⟩
def Lays (p:M Nat) (T:Nat→List Nd→Prop):Prop := ∀ ts ns a ts1 ns1,p ts ns=.ok (a,ts1,ns1)→∃ ms,ns1=ns++ms∧T ns.length ms∧ms ≠ []∧a=ns.length+ms.length-1
def Still {α:Type} (p:M α):Prop := ∀ ts ns a ts1 ns1,p ts ns=.ok (a,ts1,ns1)→ns1=ns
theorem still_take (k:Nat):Still (take k):=by
 intro ts ns a ts1 ns1 h
 unfold take at h
 split at h
 ·cases h
 ·split at h
  ·cases h;rfl
  ·cases h
theorem still_wants (w:Bytes):Still (wants w):=by
 intro ts ns a ts1 ns1 h
 unfold wants at h
 split at h
 ·cases h;rfl
 ·cases h
theorem still_pure {α:Type} (a:α):Still (M.pure a):=by
 intro ts ns b ts1 ns1 h
 cases h;rfl
theorem still_bind {α β:Type} {p:M α} {f:α→M β} (hp:Still p) (hf:∀ a,Still (f a)):Still (M.bind p f):=by
 intro ts ns b ts2 ns2 h
 obtain ⟨a,ts1,ns1,h1,h2⟩:=bind_ok h
 rw [hf a _ _ _ _ _ h2,hp _ _ _ _ _ h1]
theorem still_manyGo {α:Type} {f:M α} (hf:Still f):∀ (k:Nat) (acc:List α),Still (manyGo f k acc)
 | 0,acc=>still_pure acc
 | k+1,acc=>by
   intro ts ns b ts2 ns2 h
   unfold manyGo at h
   split at h
   ·cases h;rfl
   ·exact still_bind hf (fun a=>still_manyGo hf k (acc++[a])) _ _ _ _ _ h
theorem still_many {α:Type} {f:M α} (hf:Still f):Still (many f):=still_bind hf fun a ts ns b ts1 ns1 h=>still_manyGo hf _ _ _ _ _ _ _ h
theorem still_name:Still name:=still_bind (still_take 1) fun _=>still_pure _
theorem still_agg:Still agg:=by
 intro ts ns b ts2 ns2 h
 unfold agg at h
 split at h
 ·cases h
 ·cases h;rfl
 ·exact still_bind (still_take 1) (fun _=>still_pure _) _ _ _ _ _ h
theorem still_value:Still value:=by
 intro ts ns b ts2 ns2 h
 unfold value at h
 split at h
 ·cases h;rfl
 ·cases h;rfl
 ·split at h
  ·cases h
  ·split at h
   ·cases h;rfl
   ·split at h
    ·cases h;rfl
    ·cases h
theorem still_times:Still times:=by
 intro ts ns b ts2 ns2 h
 unfold times at h
 split at h
 ·exact still_bind (still_take 2) (fun _=>still_bind (still_wants _) fun _=>still_bind (still_take 2) fun _=>still_pure _) _ _ _ _ _ h
 ·cases h;rfl
theorem lays_leaf:Lays leaf CT:=by
 intro ts ns a ts2 ns2 h
 obtain ⟨t,ts1,ns1,h1,h2⟩:=bind_ok h
 have e1:=still_take 1 _ _ _ _ _ h1
 subst e1
 split at h2
 ·obtain ⟨u,ts3,ns3,h3,h4⟩:=bind_ok h2
  have e3:=still_take 3 _ _ _ _ _ h3
  subst e3
  cases h4
  exact ⟨_,rfl,CT.leaf _ _ (.inr rfl) rfl,by simp,rfl⟩
 ·split at h2
  ·cases h2
  ·obtain ⟨u,ts3,ns3,h3,h4⟩:=bind_ok h2
   have e3:=still_value _ _ _ _ _ h3
   subst e3
   cases h4
   exact ⟨_,rfl,CT.leaf _ _ (.inl rfl) rfl,by simp,rfl⟩
theorem joined_ok {w:Bytes} {kind:Nat} {read:M Nat} (hk:kind=11∨kind=12) (hr:Lays read CT):∀ (k a:Nat) (ts:List Tk) (ns ms:List Nd) (a2:Nat) (ts2:List Tk) (ns2:List Nd),
 CT ns.length ms→ms ≠ []→a=ns.length+ms.length-1→joinedGo w kind read k a ts (ns++ms)=.ok (a2,ts2,ns2)→∃ ms2,ns2=ns++ms2∧CT ns.length ms2∧ms2 ≠ []∧a2=ns.length+ms2.length-1
 | 0,a,ts,ns,ms,a2,ts2,ns2,hc,hne,ha,h=>by
   cases h
   exact ⟨ms,rfl,hc,hne,ha⟩
 | k+1,a,ts,ns,ms,a2,ts2,ns2,hc,hne,ha,h=>by
   unfold joinedGo at h
   split at h
   ·cases h
    exact ⟨ms,rfl,hc,hne,ha⟩
   ·obtain ⟨b,ts3,ns3,h3,h4⟩:=bind_ok h
    obtain ⟨us,rfl,hu,hune,rfl⟩:=hr _ _ _ _ _ h3
    obtain ⟨c,ts4,ns4,h5,h6⟩:=bind_ok h4
    cases h5
    rw [show ns++ms++us++[node kind [a,(ns++ms).length+us.length-1]]=ns++(ms++us++[node kind [a,(ns++ms).length+us.length-1]]) by simp] at h6
    refine joined_ok hk hr k _ _ ns (ms++us++[_]) _ _ _ ?_ (by simp) (by simp;omega) h6
    rw [List.length_append] at hu
    refine CT.bin _ _ _ _ hc hu hk ?_
    show [a,_]=_
    rw [ha,List.length_append]
theorem lays_joined {w:Bytes} {kind:Nat} {read:M Nat} (hk:kind=11∨kind=12) (hr:Lays read CT):Lays (joined w kind read) CT:=by
 intro ts ns a ts2 ns2 h
 obtain ⟨b,ts1,ns1,h1,h2⟩:=bind_ok h
 obtain ⟨ms,rfl,hc,hne,hb⟩:=hr _ _ _ _ _ h1
 exact joined_ok hk hr _ _ _ ns ms _ _ _ hc hne hb h2
theorem lays_cond {n:M Nat} (h:Lays n CT):Lays (condOf n) CT:=lays_joined (.inr rfl) (lays_joined (.inl rfl) h)
theorem lays_shut {n:M Nat} {T:Nat→List Nd→Prop} (h:Lays n T):Lays (shut n) T:=by
 intro ts ns a ts2 ns2 e
 obtain ⟨b,ts1,ns1,h1,h2⟩:=bind_ok e
 obtain ⟨_,ts3,ns3,h3,h4⟩:=bind_ok h2
 have e3:=still_wants _ _ _ _ _ _ h3
 subst e3
 cases h4
 exact h _ _ _ _ _ h1
theorem lays_deep (T:Nat→List Nd→Prop):Lays M.deep T:=by
 intro ts ns a ts2 ns2 h
 cases h
theorem lays_notOf {p q:M Nat} (hp:Lays p CT) (hq:Lays q CT):Lays (notOf p q) CT:=by
 intro ts ns a ts2 ns2 h
 unfold notOf at h
 split at h
 ·obtain ⟨b,ts1,ns1,h1,h2⟩:=bind_ok h
  obtain ⟨ms,rfl,hc,hne,hb⟩:=hp _ _ _ _ _ h1
  cases h2
  refine ⟨ms++[_],by rw [List.append_assoc],CT.un _ _ _ hc rfl (by rw [hb];rfl),by simp,by simp⟩
 ·split at h
  ·exact hq _ _ _ _ _ h
  ·exact lays_leaf _ _ _ _ _ h
theorem lays_not (d:Nat):Lays (pNot d) CT:=by
 induction d with
 | zero=>exact lays_notOf (lays_deep _) (lays_deep _)
 | succ d ih=>exact lays_notOf ih (lays_shut (lays_cond ih))
theorem lays_pCond (d:Nat):Lays (pCond d) CT:=lays_cond (lays_not d)
theorem step_ok {inner cond:M Nat} (hi:Lays inner QT) (hc:Lays cond CT) {rows:Nat} {ts:List Tk} {ns ms:List Nd} (hq:QT ns.length ms) (hne:ms ≠ []) (hr:rows=ns.length+ms.length-1) {a:Nat} {ts2:List Tk} {ns2:List Nd}
 (h:stepOf inner cond rows ts (ns++ms)=.ok (a,ts2,ns2)):∃ ms2,ns2=ns++ms2∧QT ns.length ms2∧ms2 ≠ []∧a=ns.length+ms2.length-1:=by
 have one:∀ (n:Nd) (x:Nat) (t3:List Tk) (n3:List Nd),lay n t3 (ns++ms)=.ok (a,ts2,n3)→(n.kind=3∨n.kind=4∨n.kind=5∨n.kind=6)→n.l=[rows]→∃ ms2,n3=ns++ms2∧QT ns.length ms2∧ms2 ≠ []∧a=ns.length+ms2.length-1:=by
  intro n x t3 n3 hl hk hn
  cases hl
  exact ⟨ms++[n],by rw [List.append_assoc],QT.step _ _ _ hq hk (by rw [hn,hr]),by simp,by simp⟩
 have two:∀ (n:Nd) (us:List Nd) (t3:List Tk) (n3:List Nd),lay n t3 (ns++ms++us)=.ok (a,ts2,n3)→(CT (ns.length+ms.length) us∧n.kind=2∨QT (ns.length+ms.length) us∧(n.kind=7∨n.kind=8))→us ≠ []→n.l=[rows,ns.length+ms.length+us.length-1]→∃ ms2,n3=ns++ms2∧QT ns.length ms2∧ms2 ≠ []∧a=ns.length+ms2.length-1:=by
  intro n us t3 n3 hl hk hu hn
  cases hl
  refine ⟨ms++us++[n],by simp,?_,by simp,by simp;omega⟩
  rcases hk with ⟨hk,hkk⟩ | ⟨hk,hkk⟩
  ·exact QT.where_ _ _ _ _ hq hk hkk (by rw [hn,hr])
  ·exact QT.join _ _ _ _ hq hk hkk (by rw [hn,hr])
 unfold stepOf at h
 split at h
 ·obtain ⟨c,ts3,ns3,h3,h4⟩:=bind_ok h
  obtain ⟨us,rfl,hu,hune,rfl⟩:=hc _ _ _ _ _ h3
  rw [List.length_append] at hu h4
  exact two _ us _ _ h4 (.inl ⟨hu,rfl⟩) hune rfl
 ·obtain ⟨c,ts3,ns3,h3,h4⟩:=bind_ok h
  have e3:=still_many still_name _ _ _ _ _ h3
  subst e3
  exact one _ 0 _ _ h4 (.inl rfl) rfl
 ·obtain ⟨c,ts3,ns3,h3,h4⟩:=bind_ok h
  have e3:=still_take _ _ _ _ _ _ h3
  subst e3
  exact one _ 0 _ _ h4 (.inr (.inl rfl)) rfl
 ·obtain ⟨c,ts3,ns3,h3,h4⟩:=bind_ok h
  have e3:ns3=ns++ms:=by
   split at h3
   ·cases h3;rfl
   ·exact still_many still_name _ _ _ _ _ h3
  subst e3
  obtain ⟨_,ts5,ns5,h5,h6⟩:=bind_ok h4
  have e5:=still_wants _ _ _ _ _ _ h5
  subst e5
  obtain ⟨g,ts7,ns7,h7,h8⟩:=bind_ok h6
  have e7:=still_many still_agg _ _ _ _ _ h7
  subst e7
  exact one _ 0 _ _ h8 (.inr (.inr (.inl rfl))) rfl
 ·obtain ⟨c,ts3,ns3,h3,h4⟩:=bind_ok h
  have e3:=still_take _ _ _ _ _ _ h3
  subst e3
  obtain ⟨_,ts5,ns5,h5,h6⟩:=bind_ok h4
  have e5:=still_wants _ _ _ _ _ _ h5
  subst e5
  obtain ⟨g,ts7,ns7,h7,h8⟩:=bind_ok h6
  have e7:=still_take _ _ _ _ _ _ h7
  subst e7
  exact one _ 0 _ _ h8 (.inr (.inr (.inr rfl))) rfl
 ·obtain ⟨_,ts3,ns3,h3,h4⟩:=bind_ok h
  have e3:=still_wants _ _ _ _ _ _ h3
  subst e3
  obtain ⟨c,ts5,ns5,h5,h6⟩:=bind_ok h4
  obtain ⟨us,rfl,hu,hune,rfl⟩:=hi _ _ _ _ _ h5
  rw [List.length_append] at hu h6
  exact two _ us _ _ h6 (.inr ⟨hu,.inl rfl⟩) hune rfl
 ·obtain ⟨_,ts3,ns3,h3,h4⟩:=bind_ok h
  have e3:=still_wants _ _ _ _ _ _ h3
  subst e3
  obtain ⟨c,ts5,ns5,h5,h6⟩:=bind_ok h4
  obtain ⟨us,rfl,hu,hune,rfl⟩:=hi _ _ _ _ _ h5
  rw [List.length_append] at hu h6
  exact two _ us _ _ h6 (.inr ⟨hu,.inr rfl⟩) hune rfl
 ·cases h
theorem steps_ok {inner cond:M Nat} (hi:Lays inner QT) (hc:Lays cond CT):∀ (k:Nat) (rows:Nat) (ts:List Tk) (ns ms:List Nd),QT ns.length ms→ms ≠ []→rows=ns.length+ms.length-1→∀ (a:Nat) (ts2:List Tk) (ns2:List Nd),
 stepsGo (stepOf inner cond) k rows ts (ns++ms)=.ok (a,ts2,ns2)→∃ ms2,ns2=ns++ms2∧QT ns.length ms2∧ms2 ≠ []∧a=ns.length+ms2.length-1
 | 0,rows,ts,ns,ms,hq,hne,hr,a,ts2,ns2,h=>by
   cases h
   exact ⟨ms,rfl,hq,hne,hr⟩
 | k+1,rows,ts,ns,ms,hq,hne,hr,a,ts2,ns2,h=>by
   unfold stepsGo at h
   split at h
   ·cases h
    exact ⟨ms,rfl,hq,hne,hr⟩
   ·obtain ⟨b,ts3,ns3,h3,h4⟩:=bind_ok h
    obtain ⟨ms3,rfl,hq3,hne3,hr3⟩:=step_ok hi hc hq hne hr h3
    exact steps_ok hi hc k b ts3 ns ms3 hq3 hne3 hr3 a ts2 ns2 h4
theorem lays_queryOf {inner cond:M Nat} (hi:Lays inner QT) (hc:Lays cond CT):Lays (queryOf (stepOf inner cond)) QT:=by
 intro ts ns a ts2 ns2 h
 obtain ⟨_,ts3,ns3,h3,h4⟩:=bind_ok h
 have e3:=still_wants _ _ _ _ _ _ h3
 subst e3
 obtain ⟨t,ts5,ns5,h5,h6⟩:=bind_ok h4
 have e5:=still_take _ _ _ _ _ _ h5
 subst e5
 obtain ⟨x,ts7,ns7,h7,h8⟩:=bind_ok h6
 have e7:=still_times _ _ _ _ _ h7
 subst e7
 obtain ⟨b,ts9,ns9,h9,h10⟩:=bind_ok h8
 cases h9
 exact steps_ok hi hc _ _ _ _ [_] (QT.fetch _ _ rfl rfl) (by simp) rfl _ _ _ h10
theorem lays_inner (d:Nat):Lays (pInner d) QT:=by
 induction d with
 | zero=>exact lays_deep _
 | succ d ih=>exact lays_shut (lays_queryOf ih (lays_pCond d))
theorem lays_query (d:Nat):Lays (pQuery d) QT:=lays_queryOf (lays_inner d) (lays_pCond d)
theorem parse_tree {l:List Tok} {ns:List Nd} {n:Nat} (h:parseS l=(ns,n,0)):QT 0 ns∧ns ≠ []∧ns.length≤128:=by
 unfold parseS parseAll at h
 split at h
 ·cases h
 ·split at h
  ·rename_i k e he
   cases e<;>cases h
  ·rename_i a ts ns1 he
   split at h
   ·cases h
   ·split at h
    ·cases h
    ·cases h
     obtain ⟨ms,rfl,hq,hne,_⟩:=lays_query 16 _ _ _ _ _ he
     exact ⟨hq,hne,by omega⟩
end Go.Proofs.YtnaehhpikhlppaaGreatDoor.ParS

namespace Go.Proofs.YtnaehhpikhlppaaGreatDoor.ParS
open LexS
def named (ms:List Nd):List Nat:=ms.flatMap (·.l)
structure Tree (b:Nat) (ms:List Nd):Prop where
 ne:ms ≠ []
 ahead:∀ i nd,ms[i]?=some nd→∀ c∈nd.l,c<b+i
 once:∀ c,(named ms).count c=if b≤c∧c+1<b+ms.length then 1 else 0
theorem named_app (a c:List Nd):named (a++c)=named a++named c:=by simp [named]
theorem named_one (n:Nd):named [n]=n.l:=by simp [named]
theorem tree_leaf {b:Nat} {n:Nd} (h:n.l=[]):Tree b [n]:=by
 refine ⟨by simp,fun i nd hi c hc=>?_,fun c=>?_⟩
 ·match i,hi with
  | 0,hi =>
    simp only [List.getElem?_cons_zero,Option.some.injEq] at hi
    subst hi
    rw [h] at hc
    cases hc
  | i+1,hi=>simp at hi
 ·rw [named_one,h,if_neg (by simp)]
  rfl
theorem last_ahead {b:Nat} {ts:List Nd} {n:Nd} (h:∀ i nd,ts[i]?=some nd→∀ c∈nd.l,c<b+i) (hn:∀ c∈n.l,c<b+ts.length):∀ i nd,(ts++[n])[i]?=some nd→∀ c∈nd.l,c<b+i:=by
 intro i nd hi c hc
 by_cases hlt:i<ts.length
 ·rw [List.getElem?_append_left hlt] at hi
  exact h i nd hi c hc
 ·rw [List.getElem?_append_right (by omega)] at hi
  have he:i-ts.length=0:=by
   rcases hk:i-ts.length with _ | k
   ·rfl
   ·rw [hk] at hi
    simp at hi
  rw [he] at hi
  simp only [List.getElem?_cons_zero,Option.some.injEq] at hi
  subst hi
  have:=hn c hc
  omega
theorem count_one' (a c:Nat) : [a].count c=if a=c then 1 else 0:=by
 rw [List.count_cons,List.count_nil]
 by_cases h:a=c
 ·simp [h]
 ·simp [h]
theorem count_two' (a d c:Nat) : [a,d].count c=(if a=c then 1 else 0)+(if d=c then 1 else 0):=by
 rw [List.count_cons,count_one']
 by_cases h:a=c
 ·simp [h];omega
 ·simp [h]
theorem tree_un {b:Nat} {ts:List Nd} {n:Nd} (h:Tree b ts) (hn:n.l=[b+ts.length-1]):Tree b (ts++[n]):=by
 have hl:0<ts.length:=List.length_pos_iff.2 h.ne
 refine ⟨by simp,last_ahead h.ahead (fun c hc=>?_),fun c=>?_⟩
 ·rw [hn,List.mem_singleton] at hc
  omega
 ·rw [named_app,named_one,hn,List.count_append,h.once,count_one',List.length_append,List.length_singleton]
  split<;>split<;>split<;>omega
theorem tree_bin {b:Nat} {ts us:List Nd} {n:Nd} (h:Tree b ts) (k:Tree (b+ts.length) us) (hn:n.l=[b+ts.length-1,b+ts.length+us.length-1]):Tree b (ts++us++[n]):=by
 have hl:0<ts.length:=List.length_pos_iff.2 h.ne
 have hu:0<us.length:=List.length_pos_iff.2 k.ne
 refine ⟨by simp,last_ahead (fun i nd hi c hc=>?_) (fun c hc=>?_),fun c=>?_⟩
 ·by_cases hlt:i<ts.length
  ·rw [List.getElem?_append_left hlt] at hi
   exact h.ahead i nd hi c hc
  ·rw [List.getElem?_append_right (by omega)] at hi
   have:=k.ahead _ nd hi c hc
   omega
 ·rw [List.length_append]
  rw [hn] at hc
  simp only [List.mem_cons,List.not_mem_nil,or_false] at hc
  omega
 ·rw [named_app,named_app,named_one,hn,List.count_append,List.count_append,h.once,k.once,count_two',List.length_append,List.length_append,List.length_singleton]
  split<;>split<;>split<;>split<;>split<;>omega
theorem tree_ct {b:Nat} {ms:List Nd} (h:CT b ms):Tree b ms:=by
 induction h with
 | leaf b n _ hl=>exact tree_leaf hl
 | un b ts n _ _ hl ih=>exact tree_un ih hl
 | bin b ts us n _ _ _ hl i1 i2=>exact tree_bin i1 i2 hl
theorem tree_qt {b:Nat} {ms:List Nd} (h:QT b ms):Tree b ms:=by
 induction h with
 | fetch b n _ hl=>exact tree_leaf hl
 | step b ts n _ _ hl ih=>exact tree_un ih hl
 | where_ b ts us n _ hc _ hl ih=>exact tree_bin ih (tree_ct hc) hl
 | join b ts us n _ _ _ hl i1 i2=>exact tree_bin i1 i2 hl
end Go.Proofs.YtnaehhpikhlppaaGreatDoor.ParS

namespace Go.Proofs.YtnaehhpikhlppaaGreatDoor.ParS
open LexS
inductive Cd where
 | cmp (s:Bytes) (n:Nat) (v:Val)
 | has (s t:Bytes)
 | not (c:Cd)
 | and (a b:Cd)
 | or (a b:Cd)
inductive Qr where
 | fetch (s:Bytes) (f t:Int)
 | where_ (q:Qr) (c:Cd)
 | keep (q:Qr) (l:List Bytes)
 | align (q:Qr) (n:Int)
 | group (q:Qr) (l:List Bytes) (g:List (Nat×Bytes))
 | top (q:Qr) (n:Int) (s:Bytes)
 | join (q r:Qr)
 | union (q r:Qr)
def Cd.len:Cd→Nat
 | .cmp _ _ _=>1
 | .has _ _=>1
 | .not c=>c.len+1
 | .and a b=>a.len+b.len+1
 | .or a b=>a.len+b.len+1
def Cd.flat:Nat→Cd→List Nd
 | _,.cmp s n v=>[{node 14 [] with s:=s,n:=(n:Int),v:=v}]
 | _,.has s t=>[{node 15 [] with s:=s,v:=⟨2,0,t⟩}]
 | b,.not c=>c.flat b++[node 13 [b+c.len-1]]
 | b,.and x y=>x.flat b++y.flat (b+x.len)++[node 11 [b+x.len-1,b+x.len+y.len-1]]
 | b,.or x y=>x.flat b++y.flat (b+x.len)++[node 12 [b+x.len-1,b+x.len+y.len-1]]
def Qr.len:Qr→Nat
 | .fetch _ _ _=>1
 | .where_ q c=>q.len+c.len+1
 | .keep q _=>q.len+1
 | .align q _=>q.len+1
 | .group q _ _=>q.len+1
 | .top q _ _=>q.len+1
 | .join q r=>q.len+r.len+1
 | .union q r=>q.len+r.len+1
def Qr.flat:Nat→Qr→List Nd
 | _,.fetch s f t=>[{node 1 [] with s:=s,from_:=f,to_:=t}]
 | b,.where_ q c=>q.flat b++c.flat (b+q.len)++[node 2 [b+q.len-1,b+q.len+c.len-1]]
 | b,.keep q l=>q.flat b++[{node 3 [b+q.len-1] with names:=l}]
 | b,.align q n=>q.flat b++[{node 4 [b+q.len-1] with n:=n}]
 | b,.group q l g=>q.flat b++[{node 5 [b+q.len-1] with names:=l,aggs:=g}]
 | b,.top q n s=>q.flat b++[{node 6 [b+q.len-1] with n:=n,s:=s}]
 | b,.join q r=>q.flat b++r.flat (b+q.len)++[node 7 [b+q.len-1,b+q.len+r.len-1]]
 | b,.union q r=>q.flat b++r.flat (b+q.len)++[node 8 [b+q.len-1,b+q.len+r.len-1]]
theorem Cd.pos:∀ c:Cd,0<c.len
 | .cmp _ _ _=>Nat.one_pos
 | .has _ _=>Nat.one_pos
 | .not _=>Nat.succ_pos _
 | .and _ _=>Nat.succ_pos _
 | .or _ _=>Nat.succ_pos _
theorem Qr.pos:∀ q:Qr,0<q.len
 | .fetch _ _ _=>Nat.one_pos
 | .where_ _ _=>Nat.succ_pos _
 | .keep _ _=>Nat.succ_pos _
 | .align _ _=>Nat.succ_pos _
 | .group _ _ _=>Nat.succ_pos _
 | .top _ _ _=>Nat.succ_pos _
 | .join _ _=>Nat.succ_pos _
 | .union _ _=>Nat.succ_pos _
theorem Cd.flat_len:∀ (c:Cd) (b:Nat),(c.flat b).length=c.len
 | .cmp _ _ _,_=>rfl
 | .has _ _,_=>rfl
 | .not c,b=>by simp [Cd.flat,Cd.len,c.flat_len b]
 | .and x y,b=>by simp [Cd.flat,Cd.len,x.flat_len b,y.flat_len (b+x.len)];omega
 | .or x y,b=>by simp [Cd.flat,Cd.len,x.flat_len b,y.flat_len (b+x.len)];omega
theorem Qr.flat_len:∀ (q:Qr) (b:Nat),(q.flat b).length=q.len
 | .fetch _ _ _,_=>rfl
 | .where_ q c,b=>by simp [Qr.flat,Qr.len,q.flat_len b,c.flat_len (b+q.len)];omega
 | .keep q _,b=>by simp [Qr.flat,Qr.len,q.flat_len b]
 | .align q _,b=>by simp [Qr.flat,Qr.len,q.flat_len b]
 | .group q _ _,b=>by simp [Qr.flat,Qr.len,q.flat_len b]
 | .top q _ _,b=>by simp [Qr.flat,Qr.len,q.flat_len b]
 | .join q r,b=>by simp [Qr.flat,Qr.len,q.flat_len b,r.flat_len (b+q.len)];omega
 | .union q r,b=>by simp [Qr.flat,Qr.len,q.flat_len b,r.flat_len (b+q.len)];omega
def wd (s:Bytes):Tk:=⟨1,s,0⟩
def sg (s:Bytes):Tk:=⟨4,s,0⟩
def nm (n:Int):Tk:=⟨2,[],n⟩
def tx (s:Bytes):Tk:=⟨3,s,0⟩
def signW (n:Nat):Bytes:=kw_signs.getD (n-1) []
def stepW (k:Nat):Bytes:=kw_steps.getD (k-2) []
def aggW (k:Nat):Bytes:=kw_aggs.getD (k-1) []
def valT (v:Val):List Tk:=if v.kind=1 then [nm v.n] else if v.kind=2 then [tx v.s] else [wd (if v.n=1 then [116,114,117,101] else [102,97,108,115,101])]
def Cd.rank:Cd→Nat
 | .or _ _=>1
 | .and _ _=>2
 | _=>3
def brk (rank wanted:Nat) (l:List Tk):List Tk:=if rank<wanted then [sg kw_open]++l++[sg kw_shut] else l
def Cd.body:Cd→List Tk
 | .cmp s n v=>[wd s,sg (signW n)]++valT v
 | .has s t=>[wd s,wd kw_has,tx t]
 | .not c=>[wd kw_not]++brk c.rank 3 c.body
 | .and a b=>brk a.rank 2 a.body++[wd kw_and]++brk b.rank 3 b.body
 | .or a b=>brk a.rank 1 a.body++[wd kw_or]++brk b.rank 2 b.body
def Cd.tok (w:Nat) (c:Cd):List Tk:=brk c.rank w c.body
def sep (l:List (List Tk)):List Tk:=match l with
 | []=>[]
 | x::r=>x++r.flatMap fun y=>sg kw_comma::y
def aggT (a:Nat×Bytes):List Tk:=if a.1=1 then [wd (aggW 1)] else [wd (aggW a.1),wd a.2]
def namesT (l:List Bytes):List Tk:=sep (l.map fun s=>[wd s])
def aggsT (l:List (Nat×Bytes)):List Tk:=sep (l.map aggT)
def Qr.tok:Qr→List Tk
 | .fetch s f t=>[wd kw_fetch,wd s]++if f=0∧t=1099511627775 then [] else [wd kw_from,nm f,wd kw_to,nm t]
 | .where_ q c=>q.tok++[sg kw_bar,wd (stepW 2)]++c.tok 0
 | .keep q l=>q.tok++[sg kw_bar,wd (stepW 3)]++namesT l
 | .align q n=>q.tok++[sg kw_bar,wd (stepW 4),nm n]
 | .group q l g=>q.tok++[sg kw_bar,wd (stepW 5)]++namesT l++[sg kw_colon]++aggsT g
 | .top q n s=>q.tok++[sg kw_bar,wd (stepW 6),nm n,wd kw_by,wd s]
 | .join q r=>q.tok++[sg kw_bar,wd (stepW 7),sg kw_open]++r.tok++[sg kw_shut]
 | .union q r=>q.tok++[sg kw_bar,wd (stepW 8),sg kw_open]++r.tok++[sg kw_shut]
def ValOk (v:Val):Prop:=(v.kind=1∧v.s=[])∨(v.kind=2∧v.n=0)∨(v.kind=3∧v.s=[]∧(v.n=0∨v.n=1))
def ColOk (s:Bytes):Prop:=s≠kw_not∧s≠kw_open
def Cd.Ok:Cd→Prop
 | .cmp s n v=>ColOk s∧1≤n∧n≤6∧ValOk v
 | .has s _=>ColOk s
 | .not c=>c.Ok
 | .and a b=>a.Ok∧b.Ok
 | .or a b=>a.Ok∧b.Ok
def AggOk (a:Nat×Bytes):Prop:=a=(1,[])∨(2≤a.1∧a.1≤6)
def Qr.Ok:Qr→Prop
 | .fetch _ _ _=>True
 | .where_ q c=>q.Ok∧c.Ok
 | .keep q l=>q.Ok∧l ≠ []
 | .align q _=>q.Ok
 | .group q l g=>q.Ok∧(∀ s,l.head?=some s→s≠kw_colon)∧g ≠ []∧∀ a∈g,AggOk a
 | .top q _ _=>q.Ok
 | .join q r=>q.Ok∧r.Ok
 | .union q r=>q.Ok∧r.Ok
def brkN (rank wanted n:Nat):Nat:=if rank<wanted then n+1 else n
def Cd.deepB:Cd→Nat
 | .cmp _ _ _=>0
 | .has _ _=>0
 | .not c=>brkN c.rank 3 c.deepB+1
 | .and a b=>max (brkN a.rank 2 a.deepB) (brkN b.rank 3 b.deepB)
 | .or a b=>max (brkN a.rank 1 a.deepB) (brkN b.rank 2 b.deepB)
def Cd.deep (w:Nat) (c:Cd):Nat:=brkN c.rank w c.deepB
def Qr.deep:Qr→Nat
 | .fetch _ _ _=>0
 | .where_ q c=>max q.deep (c.deep 0)
 | .keep q _=>q.deep
 | .align q _=>q.deep
 | .group q _ _=>q.deep
 | .top q _ _=>q.deep
 | .join q r=>max q.deep (r.deep+1)
 | .union q r=>max q.deep (r.deep+1)
theorem Cd.rank_pos (c:Cd):1≤c.rank:=by cases c<;>simp [Cd.rank]
theorem Cd.tok0 (c:Cd):c.tok 0=c.body:=by unfold Cd.tok brk;rw [if_neg (by omega)]
theorem Cd.tok1 (c:Cd):c.tok 1=c.body:=by unfold Cd.tok brk;rw [if_neg (by have:=c.rank_pos;omega)]
theorem Cd.deep0 (c:Cd):c.deep 0=c.deepB:=by unfold Cd.deep brkN;rw [if_neg (by omega)]
theorem Cd.deep1 (c:Cd):c.deep 1=c.deepB:=by unfold Cd.deep brkN;rw [if_neg (by have:=c.rank_pos;omega)]
theorem isW_wd (w s:Bytes):isW w (wd s)=decide (s=w):=rfl
theorem isW_sg (w s:Bytes):isW w (sg s)=decide (s=w):=rfl
theorem isW_nm (w:Bytes) (n:Int):isW w (nm n)=false:=by simp [isW,nm]
theorem isW_tx (w s:Bytes):isW w (tx s)=false:=by simp [isW,tx]
theorem sees_wd (w s:Bytes) (r:List Tk):sees w (wd s::r)=if s=w then some r else none:=by rw [sees_cons,isW_wd];simp
theorem sees_sg (w s:Bytes) (r:List Tk):sees w (sg s::r)=if s=w then some r else none:=by rw [sees_cons,isW_sg];simp
theorem sees_nm (w:Bytes) (n:Int) (r:List Tk):sees w (nm n::r)=none:=by rw [sees_cons,isW_nm];rfl
theorem sees_tx (w s:Bytes) (r:List Tk):sees w (tx s::r)=none:=by rw [sees_cons,isW_tx];rfl
def Any (_:List Tk):Prop:=True
def NoOr (r:List Tk):Prop:=sees kw_or r=none∧sees kw_and r=none
theorem value_back {v:Val} (h:ValOk v) (rest:List Tk) (ns:List Nd):value (valT v++rest) ns=.ok (v,rest,ns):=by
 obtain ⟨k,n,s⟩:=v
 unfold ValOk at h
 dsimp only at h
 rcases h with ⟨rfl,rfl⟩ | ⟨rfl,rfl⟩ | ⟨rfl,rfl,rfl | rfl⟩
 ·simp [valT,value,kw_bools,choice,sees_nm]
  rfl
 ·simp [valT,value,kw_bools,choice,sees_tx]
  rfl
 ·simp [valT,value,kw_bools,choice,sees_wd]
 ·simp [valT,value,kw_bools,choice,sees_wd]
theorem choice_sign {n:Nat} (h1:1≤n) (h2:n≤6) (rest:List Tk):choice kw_signs 1 (sg (signW n)::rest)=(n,rest):=by
 have:n=1∨n=2∨n=3∨n=4∨n=5∨n=6:=by omega
 rcases this with rfl | rfl | rfl | rfl | rfl | rfl<;>simp [signW,kw_signs,choice,sees_sg]
theorem sign_no_has {n:Nat} (h1:1≤n) (h2:n≤6) (rest:List Tk):sees kw_has (sg (signW n)::rest)=none:=by
 have:n=1∨n=2∨n=3∨n=4∨n=5∨n=6:=by omega
 rcases this with rfl | rfl | rfl | rfl | rfl | rfl<;>simp [signW,kw_signs,kw_has,sees_sg]
theorem bind_of {α β:Type} {p:M α} {f:α→M β} {ts:List Tk} {ns:List Nd} {a:α} {ts1:List Tk} {ns1:List Nd} (h:p ts ns=.ok (a,ts1,ns1)):M.bind p f ts ns=f a ts1 ns1:=by
 unfold M.bind
 rw [h]
theorem take_of {k:Nat} {t:Tk} {ts:List Tk} {ns:List Nd} (h:t.kind=k):take k (t::ts) ns=.ok (t,ts,ns):=if_pos h
theorem leaf_cmp {s:Bytes} {n:Nat} {v:Val} (h1:1≤n) (h2:n≤6) (hv:ValOk v) (rest:List Tk) (ns:List Nd):leaf ([wd s,sg (signW n)]++valT v++rest) ns=.ok (ns.length,rest,ns++[{node 14 [] with s:=s,n:=(n:Int),v:=v}]):=by
 obtain ⟨k,rfl⟩:∃ k,n=k+1:=⟨n-1,by omega⟩
 rw [List.append_assoc]
 show M.bind (take 1) _ (wd s::sg (signW (k+1))::(valT v++rest)) ns=_
 rw [bind_of (take_of (k:=1) (t:=wd s) rfl),sign_no_has h1 h2]
 dsimp only
 rw [choice_sign h1 h2]
 dsimp only
 rw [bind_of (value_back hv rest ns)]
 rfl
theorem leaf_has {s t:Bytes} (rest:List Tk) (ns:List Nd):leaf ([wd s,wd kw_has,tx t]++rest) ns=.ok (ns.length,rest,ns++[{node 15 [] with s:=s,v:=⟨2,0,t⟩}]):=by
 show M.bind (take 1) _ (wd s::wd kw_has::tx t::rest) ns=_
 rw [bind_of (take_of (k:=1) (t:=wd s) rfl),sees_wd,if_pos rfl]
 dsimp only
 rw [bind_of (take_of (k:=3) (t:=tx t) rfl)]
 rfl
end Go.Proofs.YtnaehhpikhlppaaGreatDoor.ParS

namespace Go.Proofs.YtnaehhpikhlppaaGreatDoor.ParS
open LexS
def Cd.ands:Cd→Nat
 | .and a _=>a.ands+1
 | _=>0
def Cd.ors:Cd→Nat
 | .or a _=>a.ors+1
 | _=>0
theorem Cd.ands_le:∀ c:Cd,c.ands≤c.len
 | .cmp _ _ _=>Nat.zero_le _
 | .has _ _=>Nat.zero_le _
 | .not _=>Nat.zero_le _
 | .and a b=>by have:=a.ands_le;simp [Cd.ands,Cd.len];omega
 | .or _ _=>Nat.zero_le _
theorem Cd.ors_le:∀ c:Cd,c.ors≤c.len
 | .cmp _ _ _=>Nat.zero_le _
 | .has _ _=>Nat.zero_le _
 | .not _=>Nat.zero_le _
 | .or a b=>by have:=a.ors_le;simp [Cd.ors,Cd.len];omega
 | .and _ _=>Nat.zero_le _
theorem go_stop {w:Bytes} {kind:Nat} {read:M Nat} {ts:List Tk} (h:sees w ts=none) (k a:Nat) (ns:List Nd):joinedGo w kind read k a ts ns=.ok (a,ts,ns):=by
 cases k with
 | zero=>rfl
 | succ k =>
   show (match sees w ts with | none=>_ | some _=>_)=_
   rw [h]
theorem go_next {w:Bytes} {kind:Nat} {read:M Nat} {ts ts1 ts2:List Tk} {k a b:Nat} {ns ns1:List Nd} (h:sees w ts=some ts1) (hr:read ts1 ns=.ok (b,ts2,ns1)):joinedGo w kind read (k+1) a ts ns=joinedGo w kind read k ns1.length ts2 (ns1++[node kind [a,b]]):=by
 show (match sees w ts with | none=>_ | some ts1=>_)=_
 rw [h]
 dsimp only
 rw [bind_of hr,bind_of (show lay (node kind [a,b]) ts2 ns1=.ok (ns1.length,ts2,ns1++[node kind [a,b]]) from rfl)]
theorem pNot_eq (d:Nat):∃ p q,pNot d=notOf p q:=by
 cases d with
 | zero=>exact ⟨_,_,rfl⟩
 | succ d=>exact ⟨_,_,rfl⟩
theorem notOf_not {p q:M Nat} {ts ts1:List Tk} (h:sees kw_not ts=some ts1) (ns:List Nd):notOf p q ts ns=M.bind p (fun a=>lay (node 13 [a])) ts1 ns:=by
 unfold notOf
 rw [h]
theorem notOf_open {p q:M Nat} {ts ts1:List Tk} (h:sees kw_not ts=none) (h2:sees kw_open ts=some ts1) (ns:List Nd):notOf p q ts ns=q ts1 ns:=by
 unfold notOf
 rw [h]
 dsimp only
 rw [h2]
theorem not_leaf {p q:M Nat} {s:Bytes} (h:ColOk s) (r:List Tk) (ns:List Nd):notOf p q (wd s::r) ns=leaf (wd s::r) ns:=by
 show (match sees kw_not (wd s::r) with | some _=>_ | none=>_)=_
 rw [sees_wd,if_neg h.1]
 dsimp only
 rw [sees_wd,if_neg h.2]
def P3 (c:Cd):Prop := ∀ d,c.deep 3≤d→∀ rest ns,pNot d (c.tok 3++rest) ns=.ok (ns.length+c.len-1,rest,ns++c.flat ns.length)
def P2 (c:Cd):Prop := ∀ d,c.deep 2≤d→∀ k rest ns,c.ands≤k→M.bind (pNot d) (fun a ts ns=>joinedGo kw_and 11 (pNot d) k a ts ns) (c.tok 2++rest) ns=joinedGo kw_and 11 (pNot d) (k-c.ands) (ns.length+c.len-1) rest (ns++c.flat ns.length)
def P1 (c:Cd):Prop := ∀ d,c.deep 1≤d→∀ k rest ns,c.ors≤k→sees kw_and rest=none→M.bind (bothOf (pNot d)) (fun a ts ns=>joinedGo kw_or 12 (bothOf (pNot d)) k a ts ns) (c.tok 1++rest) ns=joinedGo kw_or 12 (bothOf (pNot d)) (k-c.ors) (ns.length+c.len-1) rest (ns++c.flat ns.length)
section
variable {c:Cd}
theorem both_back (h:P2 c) (hl:c.len≤1000) {d:Nat} (hd:c.deep 2≤d) {rest:List Tk} (hr:sees kw_and rest=none) (ns:List Nd):bothOf (pNot d) (c.tok 2++rest) ns=.ok (ns.length+c.len-1,rest,ns++c.flat ns.length):=by
 have h1:=c.ands_le
 have:=h d hd fuel rest ns (by unfold fuel;omega)
 rw [go_stop hr] at this
 exact this
theorem cond_back (h:P1 c) (hl:c.len≤1000) {d:Nat} (hd:c.deepB≤d) {rest:List Tk} (hr:NoOr rest) (ns:List Nd):pCond d (c.body++rest) ns=.ok (ns.length+c.len-1,rest,ns++c.flat ns.length):=by
 have h1:=c.ors_le
 have:=h d (by rw [c.deep1];exact hd) fuel rest ns (by unfold fuel;omega) hr.2
 rw [go_stop hr.1,c.tok1] at this
 exact this
theorem p2_of (h:P3 c) (h1:c.tok 2=c.tok 3) (h2:c.deep 2=c.deep 3) (h3:c.ands=0):P2 c:=by
 intro d hd k rest ns _
 rw [h1,bind_of (h d (by rw [← h2];exact hd) rest ns),h3,Nat.sub_zero]
theorem p1_of (h:P2 c) (hl:c.len≤1000) (h1:c.tok 1=c.tok 2) (h2:c.deep 1=c.deep 2) (h3:c.ors=0):P1 c:=by
 intro d hd k rest ns _ hr
 rw [h1,bind_of (both_back h hl (by rw [← h2];exact hd) hr ns),h3,Nat.sub_zero]
theorem p3_brk (h:P1 c) (hl:c.len≤1000) (hr:c.rank<3):P3 c:=by
 intro d hd rest ns
 have e1:c.tok 3=[sg kw_open]++c.body++[sg kw_shut]:=by unfold Cd.tok brk;rw [if_pos hr]
 have e2:c.deep 3=c.deepB+1:=by unfold Cd.deep brkN;rw [if_pos hr]
 obtain ⟨d,rfl⟩:∃ d',d=d'+1:=⟨d-1,by omega⟩
 rw [e1]
 show notOf (pNot d) (shut (condOf (pNot d))) (sg kw_open::(c.body++[sg kw_shut]++rest)) ns=_
 rw [notOf_open (ts1:=c.body++[sg kw_shut]++rest) (by rw [sees_sg,if_neg (by decide)]) (by rw [sees_sg,if_pos rfl])]
 have hc:=cond_back h hl (d:=d) (by omega) (rest:=sg kw_shut::rest) ⟨by rw [sees_sg,if_neg (by decide)],by rw [sees_sg,if_neg (by decide)]⟩ ns
 rw [List.append_assoc]
 show M.bind (pCond d) _ (c.body++(sg kw_shut::rest)) ns=_
 rw [bind_of hc,bind_of (show wants kw_shut (sg kw_shut::rest) (ns++c.flat ns.length)=.ok ((),rest,ns++c.flat ns.length) from rfl)]
 rfl
end
theorem cond_all:∀ (c:Cd),c.Ok→c.len≤1000→P3 c∧P2 c∧P1 c
 | .cmp s n v,ok,hl=>by
   obtain ⟨o1,o2,o3,o4⟩:=ok
   have h3:P3 (.cmp s n v):=by
    intro d _ rest ns
    obtain ⟨p,q,e⟩:=pNot_eq d
    have e1:Cd.tok 3 (.cmp s n v)=[wd s,sg (signW n)]++valT v:=rfl
    rw [e,e1]
    refine (not_leaf o1 _ ns).trans ?_
    have:=leaf_cmp (s:=s) o2 o3 o4 rest ns
    exact this
   have h2:=p2_of h3 rfl rfl rfl
   exact ⟨h3,h2,p1_of h2 hl rfl rfl rfl⟩
 | .has s t,ok,hl=>by
   have h3:P3 (.has s t):=by
    intro d _ rest ns
    obtain ⟨p,q,e⟩:=pNot_eq d
    have e1:Cd.tok 3 (.has s t)=[wd s,wd kw_has,tx t]:=rfl
    rw [e,e1]
    refine (not_leaf ok _ ns).trans ?_
    have:=leaf_has (s:=s) (t:=t) rest ns
    exact this
   have h2:=p2_of h3 rfl rfl rfl
   exact ⟨h3,h2,p1_of h2 hl rfl rfl rfl⟩
 | .not c,ok,hl=>by
   have hlc:c.len≤1000:=by have:c.len+1≤1000:=hl;omega
   obtain ⟨i3,_,_⟩:=cond_all c ok hlc
   have h3:P3 (.not c):=by
    intro d hd rest ns
    have e2:Cd.deep 3 (.not c)=c.deep 3+1:=rfl
    obtain ⟨d,rfl⟩:∃ d',d=d'+1:=⟨d-1,by omega⟩
    have e1:Cd.tok 3 (.not c)=[wd kw_not]++c.tok 3:=rfl
    rw [e1]
    show notOf (pNot d) _ (wd kw_not::(c.tok 3++rest)) ns=_
    rw [notOf_not (ts1:=c.tok 3++rest) (by rw [sees_wd,if_pos rfl])]
    rw [bind_of (i3 d (by omega) rest ns)]
    have hp:=c.pos
    show Except.ok ((ns++c.flat ns.length).length,rest,ns++c.flat ns.length++[node 13 [ns.length+c.len-1]])=_
    rw [List.length_append,c.flat_len]
    show _=Except.ok (ns.length+(c.len+1)-1,rest,ns++(c.flat ns.length++[node 13 [ns.length+c.len-1]]))
    rw [List.append_assoc,show ns.length+(c.len+1)-1=ns.length+c.len by omega]
   have h2:=p2_of h3 rfl rfl rfl
   exact ⟨h3,h2,p1_of h2 hl rfl rfl rfl⟩
 | .and a b,ok,hl=>by
   have hl':a.len+b.len+1≤1000:=hl
   obtain ⟨_,a2,_⟩:=cond_all a ok.1 (by omega)
   obtain ⟨b3,_,_⟩:=cond_all b ok.2 (by omega)
   have h2:P2 (.and a b):=by
    intro d hd k rest ns hk
    have e1:Cd.tok 2 (.and a b)=a.tok 2++[wd kw_and]++b.tok 3:=rfl
    have e2:Cd.deep 2 (.and a b)=max (a.deep 2) (b.deep 3):=rfl
    have e3:Cd.ands (.and a b)=a.ands+1:=rfl
    rw [e2] at hd
    rw [e3] at hk ⊢
    rw [e1,List.append_assoc,List.append_assoc,a2 d (by omega) k _ ns (by omega)]
    obtain ⟨m,hm⟩:∃ m,k-a.ands=m+1:=⟨k-a.ands-1,by omega⟩
    rw [hm,go_next (ts1:=b.tok 3++rest) (by show sees kw_and (wd kw_and::(b.tok 3++rest))=_;rw [sees_wd,if_pos rfl]) (b3 d (by omega) rest _)]
    have hp:=b.pos
    have hq:=a.pos
    rw [show k-(a.ands+1)=m by omega,List.length_append,List.length_append,a.flat_len,b.flat_len]
    show joinedGo kw_and 11 (pNot d) m (ns.length+a.len+b.len) rest _=joinedGo kw_and 11 (pNot d) m (ns.length+(a.len+b.len+1)-1) rest (ns++(a.flat ns.length++b.flat (ns.length+a.len)++[node 11 [ns.length+a.len-1,ns.length+a.len+b.len-1]]))
    rw [show ns.length+(a.len+b.len+1)-1=ns.length+a.len+b.len by omega]
    simp only [List.append_assoc]
   have h1:=p1_of h2 hl rfl rfl rfl
   exact ⟨p3_brk h1 hl (by decide:(2:Nat)<3),h2,h1⟩
 | .or a b,ok,hl=>by
   have hl':a.len+b.len+1≤1000:=hl
   obtain ⟨_,_,a1⟩:=cond_all a ok.1 (by omega)
   obtain ⟨_,b2,_⟩:=cond_all b ok.2 (by omega)
   have h1:P1 (.or a b):=by
    intro d hd k rest ns hk hr
    have e1:Cd.tok 1 (.or a b)=a.tok 1++[wd kw_or]++b.tok 2:=rfl
    have e2:Cd.deep 1 (.or a b)=max (a.deep 1) (b.deep 2):=rfl
    have e3:Cd.ors (.or a b)=a.ors+1:=rfl
    rw [e2] at hd
    rw [e3] at hk ⊢
    rw [e1,List.append_assoc,List.append_assoc,a1 d (by omega) k _ ns (by omega) (by show sees kw_and (wd kw_or::_)=_;rw [sees_wd,if_neg (by decide)])]
    obtain ⟨m,hm⟩:∃ m,k-a.ors=m+1:=⟨k-a.ors-1,by omega⟩
    rw [hm,go_next (ts1:=b.tok 2++rest) (by show sees kw_or (wd kw_or::(b.tok 2++rest))=_;rw [sees_wd,if_pos rfl]) (both_back b2 (by omega) (by omega) hr _)]
    have hp:=b.pos
    have hq:=a.pos
    rw [show k-(a.ors+1)=m by omega,List.length_append,List.length_append,a.flat_len,b.flat_len]
    show joinedGo kw_or 12 (bothOf (pNot d)) m (ns.length+a.len+b.len) rest _=joinedGo kw_or 12 (bothOf (pNot d)) m (ns.length+(a.len+b.len+1)-1) rest (ns++(a.flat ns.length++b.flat (ns.length+a.len)++[node 12 [ns.length+a.len-1,ns.length+a.len+b.len-1]]))
    rw [show ns.length+(a.len+b.len+1)-1=ns.length+a.len+b.len by omega]
    simp only [List.append_assoc]
   have h3:=p3_brk h1 hl (by decide:(1:Nat)<3)
   exact ⟨h3,p2_of h3 rfl rfl rfl,h1⟩
end Go.Proofs.YtnaehhpikhlppaaGreatDoor.ParS
