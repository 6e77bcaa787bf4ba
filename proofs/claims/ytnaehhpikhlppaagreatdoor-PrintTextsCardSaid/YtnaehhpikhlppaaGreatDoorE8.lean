/- Several texts of the proof, joined. -/
import Derived.Test.YtnaehhpikhlppaaGreatDoorE6
import Derived.Test.YtnaehhpikhlppaaGreatDoorE7
set_option maxHeartbeats 4000000
set_option maxRecDepth 100000
set_option linter.unusedVariables false
set_option linter.unusedSimpArgs false
namespace Go.Proofs.YtnaehhpikhlppaaGreatDoor.ParS
open LexS
def oneT (t:Tk):Bytes:=if t.kind=2 then Lib.itoa t.n else if t.kind=3 then quoteS t.s else t.s
def opens (t:Tk):Bool:=decide (t.kind=4) && decide (t.s=kw_open)
def closes (t:Tk):Bool:=decide (t.kind=4) && (decide (t.s=kw_comma) || decide (t.s=kw_shut))
def gapT (p t:Tk):Bytes:=if (opens p || closes t)=true then [] else [32]
def spellR (p:Tk):List Tk→Bytes
 | []=>[]
 | t::r=>gapT p t++oneT t++spellR t r
def spell:List Tk→Bytes
 | []=>[]
 | t::r=>oneT t++spellR t r
def LexT (t:Tk):Prop:=oneS (oneT t)=(⟨t.kind,t.s,t.n,0⟩,(oneT t).length)∧∃ c r,oneT t=c::r∧blankB c=false
theorem lexT_ne {t:Tk} (h:LexT t):(oneS (oneT t)).2≠0:=by
 obtain ⟨h1,c,r,h2,_⟩:=h
 rw [h1,h2]
 simp
theorem one_open (X:Bytes):oneS (40::X)=(⟨4,[40],0,0⟩,1):=by
 simp [oneS,letterB,digitB,signLen]
theorem lex_at {p:Tk} (hp:LexT p) (r:List Tk):oneS (oneT p++spellR p r)=(⟨p.kind,p.s,p.n,0⟩,(oneT p).length):=by
 have hn:=lexT_ne hp
 cases r with
 | nil=>rw [show spellR p []=[] from rfl,List.append_nil];exact hp.1
 | cons t r =>
   show oneS (oneT p++(gapT p t++oneT t++spellR t r))=_
   by_cases ho:opens p=true
   ·have h1:p.kind=4∧p.s=kw_open:=by simpa [opens] using ho
    have h2:oneT p=[40]:=by unfold oneT;rw [if_neg (by omega),if_neg (by omega),h1.2];rfl
    have h3:=hp.1
    rw [h2,one_open []] at h3
    rw [h2,← h3]
    exact one_open _
   ·unfold gapT
    by_cases hc:closes t=true
    ·rw [if_pos (by rw [hc];simp),List.nil_append]
     have h1:t.kind=4∧(t.s=kw_comma∨t.s=kw_shut):=by simpa [closes] using hc
     have h2:oneT t=t.s:=by unfold oneT;rw [if_neg (by omega),if_neg (by omega)]
     rw [h2]
     rcases h1.2 with e | e
     ·rw [e]
      show oneS (oneT p++44::([]++spellR t r))=_
      rw [one_ends _ _ _ (by unfold TokEnd;decide) hn]
      exact hp.1
     ·rw [e]
      show oneS (oneT p++41::([]++spellR t r))=_
      rw [one_ends _ _ _ (by unfold TokEnd;decide) hn]
      exact hp.1
    ·rw [if_neg (by simp [ho,hc])]
     show oneS (oneT p++32::(oneT t++spellR t r))=_
     rw [one_ends _ _ _ (by unfold TokEnd;decide) hn]
     exact hp.1
theorem lexGo_spell:∀ (r:List Tk) (p:Tk) (k a:Nat) (acc:List Tok),(∀ t∈p::r,LexT t)→(oneT p++spellR p r).length<k→∃ xs,lexGo k a (oneT p++spellR p r) acc=(acc++xs,0,0)∧xs.map tk=p::r
 | r,p,0,a,acc,_,h=>by omega
 | r,p,k+1,a,acc,hl,h=>by
   have hp:=hl p (by simp)
   have hb:∃ c s,oneT p++spellR p r=c::s∧blankB c=false:=by
    obtain ⟨c,s,e,hb⟩:=hp.2
    exact ⟨c,s++spellR p r,by rw [e];rfl,hb⟩
   have hne:(oneT p).length≠0:=by
    obtain ⟨c,s,e,_⟩:=hp.2
    rw [e]
    simp
   rw [lexGo_tok hb (lex_at hp r) hne,List.drop_left]
   rw [List.length_append] at h
   cases r with
   | nil =>
     rw [show spellR p []=[] from rfl,lexGo_nil]
     exact ⟨[⟨p.kind,p.s,p.n,a⟩],rfl,rfl⟩
   | cons t r =>
     have hgo:∃ k2 a2,lexGo k (a+(oneT p).length) (spellR p (t::r)) (acc++[{ (⟨p.kind,p.s,p.n,0⟩:Tok) with at_:=a}])=lexGo k2 a2 (oneT t++spellR t r) (acc++[{ (⟨p.kind,p.s,p.n,0⟩:Tok) with at_:=a}])∧(oneT t++spellR t r).length<k2:=by
      have e:spellR p (t::r)=gapT p t++(oneT t++spellR t r):=by
       show gapT p t++oneT t++spellR t r=_
       rw [List.append_assoc]
      rw [e] at h ⊢
      unfold gapT at h ⊢
      by_cases hg:(opens p || closes t)=true
      ·rw [if_pos hg] at h ⊢
       rw [List.nil_append] at h ⊢
       exact ⟨k,_,rfl,by omega⟩
      ·rw [if_neg hg] at h ⊢
       obtain ⟨k',rfl⟩:∃ k',k=k'+1:=⟨k-1,by simp at h;omega⟩
       refine ⟨k',a+(oneT p).length+1,?_,by simp at h ⊢;omega⟩
       show lexGo (k'+1) _ (32::(oneT t++spellR t r)) _=_
       rw [lexGo]
       rw [if_pos (by decide)]
     obtain ⟨k2,a2,e,hk2⟩:=hgo
     rw [e]
     obtain ⟨xs,h1,h2⟩:=lexGo_spell r t k2 a2 _ (fun x hx=>hl x (by simp at hx ⊢;exact .inr hx)) hk2
     refine ⟨⟨p.kind,p.s,p.n,a⟩::xs,by rw [h1];simp,by rw [List.map_cons,h2];rfl⟩
termination_by r=>r.length
theorem lex_spell {l:List Tk} (h:∀ t∈l,LexT t) (hl:(spell l).length≤2048):∃ xs,lexS (spell l)=(xs,0,0)∧xs.map tk=l:=by
 unfold lexS
 rw [if_neg (by omega)]
 cases l with
 | nil=>exact ⟨[],rfl,rfl⟩
 | cons t r =>
   obtain ⟨xs,h1,h2⟩:=lexGo_spell r t ((spell (t::r)).length+1) 0 [] h (Nat.lt_succ_self _)
   exact ⟨xs,by rw [List.nil_append] at h1;exact h1,h2⟩
theorem kw_lex:∀ t∈kwL,LexT t:=by
 have h:(kwL.all fun t=>decide (oneS (oneT t)=(⟨t.kind,t.s,t.n,0⟩,(oneT t).length)) && match oneT t with | []=>false | c::_ => !blankB c)=true:=by decide +kernel
 intro t ht
 have:=List.all_eq_true.1 h t ht
 rw [Bool.and_eq_true,decide_eq_true_eq] at this
 refine ⟨this.1,?_⟩
 have h2:=this.2
 split at h2
 ·cases h2
 ·rename_i c r e
  exact ⟨c,r,e,by simpa using h2⟩
theorem while_take (p:UInt8→Bool):∀ (l:Bytes),while_ p (l.take (while_ p l))=while_ p l
 | []=>rfl
 | c::r=>by
   by_cases h:p c=true
   ·have e:while_ p (c::r)=while_ p r+1:=by show (if p c then while_ p r+1 else 0)=_;rw [if_pos h]
    rw [e,List.take_succ_cons]
    show (if p c then while_ p (r.take (while_ p r))+1 else 0)=_
    rw [if_pos h,while_take p r]
   ·have e:while_ p (c::r)=0:=by show (if p c then while_ p r+1 else 0)=_;rw [if_neg h]
    rw [e]
    rfl
theorem letter_not_blank {c:UInt8} (h:letterB c=true):blankB c=false:=by
 simp [letterB] at h
 simp [blankB]
 omega
theorem digit_not_blank {c:UInt8} (h:digitB c=true):blankB c=false:=by
 simp [digitB] at h
 simp [blankB]
 omega
theorem word_self {c:UInt8} {r:Bytes} (hc:letterB c=true) (hw:while_ innerB (c::r)≤24):LexT (wd ((c::r).take (while_ innerB (c::r)))):=by
 have hi:innerB c=true:=by unfold innerB;rw [hc];rfl
 have hn:while_ innerB (c::r)=while_ innerB r+1:=by show (if innerB c then _ else _)=_;rw [if_pos hi]
 have hle:=while_le innerB (c::r)
 have hwt:=while_take innerB (c::r)
 have hlen:((c::r).take (while_ innerB (c::r))).length=while_ innerB (c::r):=by rw [List.length_take];omega
 have ht:(c::r).take (while_ innerB (c::r))=c::r.take (while_ innerB r):=by rw [hn,List.take_succ_cons]
 have e:oneT (wd ((c::r).take (while_ innerB (c::r))))=(c::r).take (while_ innerB (c::r)):=rfl
 unfold LexT
 rw [e]
 refine ⟨?_,c,_,ht,letter_not_blank hc⟩
 rw [hlen]
 have h1:oneS ((c::r).take (while_ innerB (c::r)))=(⟨1,((c::r).take (while_ innerB (c::r))).take (while_ innerB ((c::r).take (while_ innerB (c::r)))),0,0⟩,while_ innerB ((c::r).take (while_ innerB (c::r)))):=by
  rw [ht] at hwt ⊢
  show (if letterB c then (if while_ innerB (c::r.take (while_ innerB r))≤24 then (⟨1,_,0,0⟩,_) else (noTok,0)) else _)=_
  rw [if_pos hc,if_pos (by rw [hwt];exact hw)]
 rw [h1,hwt,List.take_of_length_le (by rw [hlen];exact Nat.le_refl _)]
 rfl
theorem quote_self {s:Bytes} (h:s.length≤64):LexT (tx s):=by
 unfold LexT
 rw [show oneT (tx s)=quoteS s from rfl,one_quote,if_pos h]
 exact ⟨rfl,34,_,rfl,by decide⟩
theorem number_self {c:UInt8} {r:Bytes} {v:Int} {n:Nat} (hl:letterB c=false) (hq:¬ c.toNat=34) (hd:digitB c=true∨(c.toNat=45∧r.head?.map digitB=some true)) (h:numberS (c::r)=some (v,n)):LexT (nm v):=by
 unfold numberS at h
 split at h
 ·rename_i v' ha
  split at h
  ·rename_i hi
   simp only [Option.some.injEq,Prod.mk.injEq] at h
   obtain ⟨rfl,rfl⟩:=h
   obtain ⟨hi1,hi2⟩:=hi
   obtain ⟨m,hm,hm2⟩:∃ m,numLen (c::r)=m+1∧numLen (c::r.take m)=m+1∧(digitB c=true∨(c.toNat=45∧(r.take m).head?.map digitB=some true)):=by
    by_cases h45:c.toNat=45
    ·have e1:numLen (c::r)=1+while_ digitB r:=by unfold numLen;rw [if_pos (by simp [h45])];rfl
     refine ⟨while_ digitB r,by omega,?_,?_⟩
     ·have e2:numLen (c::r.take (while_ digitB r))=1+while_ digitB (r.take (while_ digitB r)):=by unfold numLen;rw [if_pos (by simp [h45])];rfl
      rw [e2,while_take]
      omega
     ·rcases hd with hd | ⟨_,hd⟩
      ·exact .inl hd
      ·right
       refine ⟨h45,?_⟩
       cases r with
       | nil=>simp at hd
       | cons d r =>
         simp only [List.head?_cons,Option.map_some,Option.some.injEq] at hd
         have:while_ digitB (d::r)=while_ digitB r+1:=by show (if digitB d then _ else _)=_;rw [if_pos hd]
         rw [this,List.take_succ_cons]
         simp [hd]
    ·have hdc:digitB c=true:=by
      rcases hd with hd | ⟨hd,_⟩
      ·exact hd
      ·exact absurd hd h45
     have e1:numLen (c::r)=while_ digitB r+1:=by
      unfold numLen
      rw [if_neg (by simp [h45])]
      show (if digitB c then _ else _)=_
      rw [if_pos hdc]
     refine ⟨while_ digitB r,e1,?_,.inl hdc⟩
     unfold numLen
     rw [if_neg (by simp [h45])]
     show (if digitB c then _ else _)=_
     rw [if_pos hdc,while_take]
   obtain ⟨hm3,hd2⟩:=hm2
   have hle:=numLen_le (c::r)
   have ht:(c::r).take (numLen (c::r))=c::r.take m:=by rw [hm,List.take_succ_cons]
   rw [ht] at ha hi1
   have hlen:(c::r.take m).length=m+1:=by rw [hm,List.length_cons] at hle;simp;omega
   have e:oneT (nm v')=c::r.take m:=by rw [show oneT (nm v')=Lib.itoa v' from rfl,hi1]
   unfold LexT
   rw [e,hlen]
   refine ⟨?_,c,_,rfl,?_⟩
   ·have hnum:numberS (c::r.take m)=some (v',m+1):=by
     unfold numberS
     rw [hm3,List.take_of_length_le (by rw [hlen];exact Nat.le_refl _),ha]
     dsimp only
     rw [if_pos ⟨hi1,by rw [List.getElem?_eq_none (by rw [hlen];exact Nat.le_refl _)];simp⟩]
    have hone:oneS (c::r.take m)=(match numberS (c::r.take m) with | some (v,n)=>(⟨2,[],v,0⟩,n) | none=>(noTok,0)):=by
     unfold oneS
     dsimp only
     rw [if_neg (by rw [hl];simp),if_neg hq,if_pos hd2]
     rcases numberS (c::List.take m r) with _ | ⟨_,_⟩<;>rfl
    rw [hone,hnum]
    rfl
   ·rcases hd2 with h2 | ⟨h2,_⟩
    ·exact digit_not_blank h2
    ·simp [blankB]
     omega
  ·cases h
 ·cases h
theorem sign_self {c:UInt8} {r:Bytes} (hl:letterB c=false) (hq:¬ c.toNat=34) (hd:digitB c=false) (hs:signLen (c::r)≠0):LexT (sg ((c::r).take (signLen (c::r)))):=by
 have hc:c.toNat≠45∧blankB c=false:=by
  have:c.toNat=33∨c.toNat=60∨c.toNat=62∨c.toNat=124∨c.toNat=44∨c.toNat=40∨c.toNat=41∨c.toNat=58∨c.toNat=61:=by
   simp only [signLen] at hs
   split at hs
   ·rename_i h;omega
   ·split at hs
    ·rename_i h;omega
    ·exact absurd rfl hs
  refine ⟨by omega,?_⟩
  simp [blankB]
  omega
 obtain ⟨s,hs1,hs2,hs3⟩:∃ s,(c::r).take (signLen (c::r))=c::s∧signLen (c::s)=(c::s).length∧True:=by
  simp only [signLen] at hs ⊢
  split
  ·rename_i h
   obtain ⟨h1,h2⟩:=h
   cases r with
   | nil=>simp at h1
   | cons d r =>
     refine ⟨[d],rfl,?_,trivial⟩
     rw [if_pos ⟨by simpa using h1,h2⟩]
     rfl
  ·rename_i h
   rw [if_neg h] at hs
   split
   ·rename_i h2
    refine ⟨[],rfl,?_,trivial⟩
    simp
   ·rename_i h2
    rw [if_neg h2] at hs
    exact absurd rfl hs
 rw [hs1]
 have e:oneT (sg (c::s))=c::s:=rfl
 unfold LexT
 rw [e]
 refine ⟨?_,c,s,rfl,hc.2⟩
 unfold oneS
 dsimp only
 rw [if_neg (by rw [hl];simp),if_neg hq,if_neg (by rw [hd];simp;intro h;exact absurd h hc.1),if_neg (by rw [hs2];simp),hs2,List.take_of_length_le (Nat.le_refl _)]
 rfl
theorem one_self (l:Bytes) (h:(oneS l).2≠0):LexT (norm (tk (oneS l).1)):=by
 cases l with
 | nil=>exact absurd rfl h
 | cons c r =>
   unfold oneS at h ⊢
   dsimp only at h ⊢
   by_cases h1:letterB c=true
   ·rw [if_pos h1] at h ⊢
    by_cases h2:while_ innerB (c::r)≤24
    ·rw [if_pos h2] at h ⊢
     exact word_self h1 h2
    ·rw [if_neg h2] at h
     exact absurd rfl h
   ·rw [if_neg h1] at h ⊢
    by_cases h2:c.toNat=34
    ·rw [if_pos h2] at h ⊢
     rcases hx:textS (c::r) with _ | ⟨t,n⟩
     ·rw [hx] at h;exact absurd rfl h
     ·have:=(textS_bd (by simp) hx).2.2
      exact quote_self this
    ·rw [if_neg h2] at h ⊢
     by_cases h3:digitB c=true∨(c.toNat=45∧r.head?.map digitB=some true)
     ·rw [if_pos h3] at h ⊢
      rcases hx:numberS (c::r) with _ | ⟨v,n⟩
      ·rw [hx] at h;exact absurd rfl h
      ·exact number_self (by simpa using h1) h2 h3 hx
     ·rw [if_neg h3] at h ⊢
      by_cases h4:signLen (c::r)=0
      ·rw [if_pos h4] at h;exact absurd rfl h
      ·rw [if_neg h4]
       have hd:digitB c=false:=by
        rcases hb:digitB c with _ | _
        ·rfl
        ·exact absurd (.inl hb) h3
       exact sign_self (by simpa using h1) h2 hd h4
theorem lexGo_lex:∀ (k a:Nat) (rest:Bytes) (acc:List Tok),(∀ u∈acc,LexT (norm (tk u)))→∀ u∈(lexGo k a rest acc).1,LexT (norm (tk u))
 | 0,a,rest,acc,h=>h
 | k+1,a,[],acc,h=>h
 | k+1,a,c::r,acc,h=>by
   rw [lexGo]
   split
   ·exact lexGo_lex k _ _ _ h
   ·split
    ·intro u hu
     cases hu
    ·rename_i hn
     refine lexGo_lex k _ _ _ fun u hu=>?_
     rcases List.mem_append.1 hu with hu | hu
     ·exact h u hu
     ·rw [List.mem_singleton] at hu
      subst hu
      exact one_self (c::r) hn
theorem lexS_lex (l:Bytes):∀ u∈(lexS l).1,LexT (norm (tk u)):=by
 unfold lexS
 split
 ·intro u hu
  cases hu
 ·exact lexGo_lex _ _ _ _ fun u hu=>by cases hu
theorem text_back {s:Bytes} {ns:List Nd} {a:Nat} (h:queryS s=(ns,a,0)):∃ q:Qr,ns=q.flat 0∧q.Ok∧q.deep≤16∧q.len≤128∧q.tok.length≤1024∧(∀ t∈q.tok,LexT t)∧parseAll (pQuery 16) q.tok=(ns,0,0)∧((spell q.tok).length≤2048→queryS (spell q.tok)=(ns,0,0)):=by
 unfold queryS at h
 rcases hx:lexS s with ⟨l,b,e⟩
 rw [hx] at h
 dsimp only at h
 by_cases he:e≠0
 ·rw [if_pos he] at h
  injection h with h4 h5
  injection h5 with h6 h7
  exact absurd h7 he
 ·rw [if_neg he] at h
  rcases hp:parseS l with ⟨ns2,n,f⟩
  rw [hp] at h
  dsimp only at h
  by_cases hf:f=0
  ·subst hf
   rw [if_pos rfl] at h
   injection h with h4 h5
   subst h4
   obtain ⟨q,k1,k2,k3,k4,k5,k6⟩:=parse_gives hp
   have hlex:∀ t∈q.tok,LexT t:=by
    intro t ht
    rcases k6 t ht with h1 | ⟨u,hu,rfl⟩
    ·exact kw_lex t h1
    ·have:=lexS_lex s u
     rw [hx] at this
     exact this hu
   have hpb:=parse_back k2 k4 k5 k3
   rw [← k1] at hpb
   refine ⟨q,k1,k2,k3,k4,k5,hlex,hpb,fun hl=>?_⟩
   obtain ⟨xs,h1,h2⟩:=lex_spell hlex hl
   unfold queryS
   rw [h1]
   dsimp only
   rw [if_neg (by simp)]
   unfold parseS
   rw [h2,hpb]
   rfl
  ·rw [if_neg hf] at h
   rcases hz:l[n]? with _ | t
   all_goals
    rw [hz] at h
    injection h with h4 h5
    injection h5 with h6 h7
    exact absurd h7 hf
end Go.Proofs.YtnaehhpikhlppaaGreatDoor.ParS

namespace Go.Proofs.YtnaehhpikhlppaaGreatDoor.ParS
open LexS
def cutGo:Bool→Bytes→Nat
 | _,[]=>0
 | true,[c]=>if c.toNat=92 then 2 else 1
 | true,c::d::r=>if c.toNat=92 then cutGo true r+2 else if c.toNat=34 then cutGo false (d::r)+1 else cutGo true (d::r)+1
 | false,c::r=>if c.toNat=32 then 0 else if c.toNat=34 then cutGo true r+1 else cutGo false r+1
theorem cut_plain:∀ (l X:Bytes),(∀ c∈l,c.toNat≠32∧c.toNat≠34)→cutGo false (l++X)=l.length+cutGo false X
 | [],X,_=>by simp
 | c::r,X,h=>by
   have hc:=h c (by simp)
   rw [List.cons_append,cutGo,if_neg hc.1,if_neg hc.2,cut_plain r X fun d hd=>h d (by simp [hd]),List.length_cons]
   omega
theorem cut_true_cons (c d:UInt8) (r:Bytes):cutGo true (c::d::r)=if c.toNat=92 then cutGo true r+2 else if c.toNat=34 then cutGo false (d::r)+1 else cutGo true (d::r)+1:=by rw [cutGo]
theorem cut_body:∀ (l X:Bytes),cutGo true (l.flatMap esc++34::X)=(l.flatMap esc).length+1+cutGo false X
 | [],X=>by
   show cutGo true (34::X)=0+1+cutGo false X
   cases X with
   | nil=>rfl
   | cons d r=>rw [cut_true_cons,if_neg (by decide),if_pos (by decide)];omega
 | c::r,X=>by
   have ih:=cut_body r X
   rw [List.flatMap_cons]
   unfold esc
   by_cases h:c.toNat=34∨c.toNat=92
   ·rw [if_pos h]
    show cutGo true (92::c::(r.flatMap esc++34::X))=([92,c]++r.flatMap esc).length+1+cutGo false X
    rw [cut_true_cons,if_pos (by decide),ih]
    simp
    omega
   ·rw [if_neg h]
    obtain ⟨d,s,e⟩:∃ d s,r.flatMap esc++34::X=d::s:=by
     cases r.flatMap esc with
     | nil=>exact ⟨_,_,rfl⟩
     | cons d s=>exact ⟨_,_,rfl⟩
    show cutGo true (c::(r.flatMap esc++34::X))=([c]++r.flatMap esc).length+1+cutGo false X
    rw [e,cut_true_cons,if_neg (by omega),if_neg (by omega),← e,ih]
    simp
    omega
theorem cut_quote (l X:Bytes):cutGo false (quoteS l++X)=(quoteS l).length+cutGo false X:=by
 have e:quoteS l++X=34::(l.flatMap esc++34::X):=by unfold quoteS;simp
 rw [e,cutGo,if_neg (by decide),if_pos (by decide),cut_body]
 unfold quoteS
 simp
 omega
theorem while_full (p:UInt8→Bool):∀ (l:Bytes),while_ p l=l.length→∀ c∈l,p c=true
 | [],_,_,h=>by cases h
 | d::r,h,c,hc=>by
   by_cases hd:p d=true
   ·have e:while_ p (d::r)=while_ p r+1:=by show (if p d then while_ p r+1 else 0)=_;rw [if_pos hd]
    rw [e,List.length_cons] at h
    rcases List.mem_cons.1 hc with rfl | hc
    ·exact hd
    ·exact while_full p r (by omega) c hc
   ·have e:while_ p (d::r)=0:=by show (if p d then while_ p r+1 else 0)=_;rw [if_neg hd]
    rw [e,List.length_cons] at h
    omega
theorem inner_free {c:UInt8} (h:innerB c=true):c.toNat≠32∧c.toNat≠34:=by
 simp [innerB,letterB,digitB] at h
 omega
theorem digit_free {c:UInt8} (h:digitB c=true):c.toNat≠32∧c.toNat≠34:=by
 simp [digitB] at h
 omega
theorem lexT_cases {t:Tk} (h:LexT t):(t.kind=3∧t.s.length≤64)∨((∀ c∈oneT t,c.toNat≠32∧c.toNat≠34)∧(oneT t).length≤130):=by
 obtain ⟨h1,c,r,h2,_⟩:=h
 rw [h2] at h1 ⊢
 unfold oneS at h1
 dsimp only at h1
 by_cases hl:letterB c=true
 ·rw [if_pos hl] at h1
  by_cases hw:while_ innerB (c::r)≤24
  ·rw [if_pos hw] at h1
   have e:=(Prod.mk.inj h1).2
   exact .inr ⟨fun d hd=>inner_free (while_full innerB _ e d hd),by omega⟩
  ·rw [if_neg hw] at h1
   have:=(Prod.mk.inj h1).2
   simp at this
 ·rw [if_neg hl] at h1
  by_cases hq:c.toNat=34
  ·rw [if_pos hq] at h1
   rcases hx:textS (c::r) with _ | ⟨s,n⟩
   ·rw [hx] at h1
    have:=(Prod.mk.inj h1).2
    simp at this
   ·rw [hx] at h1
    have e:=(Prod.mk.inj h1).1
    simp only [Tok.mk.injEq] at e
    have hb:=(textS_bd (by simp) hx).2.2
    exact .inl ⟨e.1.symm,by rw [← e.2.1];exact hb⟩
  ·rw [if_neg hq] at h1
   by_cases hd:digitB c=true∨(c.toNat=45∧r.head?.map digitB=some true)
   ·rw [if_pos hd] at h1
    rcases hx:numberS (c::r) with _ | ⟨v,n⟩
    ·rw [hx] at h1
     have:=(Prod.mk.inj h1).2
     simp at this
    ·rw [hx] at h1
     have en:=(Prod.mk.inj h1).2
     unfold numberS at hx
     split at hx
     ·rename_i v' ha
      split at hx
      ·rename_i hi
       simp only [Option.some.injEq,Prod.mk.injEq] at hx
       obtain ⟨rfl,rfl⟩:=hx
       rw [en,List.take_of_length_le (Nat.le_refl _)] at hi ha
       obtain ⟨v0,v1⟩:=Lib.atoiAll_bounds ha
       have hs:=itoa_small v' v0 v1
       rw [hi.1] at hs
       refine .inr ⟨fun d hdm=>?_,by omega⟩
       unfold numLen at en
       by_cases h45:c.toNat=45
       ·rw [if_pos (by simp [h45])] at en
        have e2:while_ digitB r=r.length:=by
         have:(c::r).drop 1=r:=rfl
         rw [this,List.length_cons] at en
         omega
        rcases List.mem_cons.1 hdm with rfl | hdm
        ·omega
        ·exact digit_free (while_full digitB r e2 d hdm)
       ·rw [if_neg (by simp [h45])] at en
        exact digit_free (while_full digitB _ en d hdm)
      ·cases hx
     ·cases hx
   ·rw [if_neg hd] at h1
    by_cases hs:signLen (c::r)=0
    ·rw [if_pos hs] at h1
     have:=(Prod.mk.inj h1).2
     simp at this
    ·rw [if_neg hs] at h1
     have en:=(Prod.mk.inj h1).2
     have h2':=(signLen_le (c::r)).2
     refine .inr ⟨?_,by omega⟩
     have hc:c.toNat≠32∧c.toNat≠34:=by
      refine ⟨?_,hq⟩
      intro e
      apply hs
      simp [signLen,e]
     cases r with
     | nil =>
       intro d hdm
       rw [List.mem_singleton] at hdm
       subst hdm
       exact hc
     | cons x r =>
       cases r with
       | nil =>
         intro d hdm
         rcases List.mem_cons.1 hdm with rfl | hdm
         ·exact hc
         ·rw [List.mem_singleton] at hdm
          subst hdm
          simp only [signLen] at en
          split at en
          ·rename_i h
           have h61:d.toNat=61:=by simpa using h.1
           omega
          ·split at en<;>simp at en
       | cons y r=>simp at en;omega
theorem lexT_cut {t:Tk} (h:LexT t) (X:Bytes):cutGo false (oneT t++X)=(oneT t).length+cutGo false X:=by
 rcases lexT_cases h with ⟨h1,_⟩ | ⟨h1,_⟩
 ·have e:oneT t=quoteS t.s:=by unfold oneT;rw [if_neg (by omega),if_pos h1]
  rw [e]
  exact cut_quote _ _
 ·exact cut_plain _ _ h1
theorem lexT_small {t:Tk} (h:LexT t):(oneT t).length≤130:=by
 rcases lexT_cases h with ⟨h1,h2⟩ | ⟨_,h2⟩
 ·have e:oneT t=quoteS t.s:=by unfold oneT;rw [if_neg (by omega),if_pos h1]
  rw [e]
  have:=quote_len t.s
  omega
 ·exact h2
def joinR:Tk→List Tk→List Tk
 | _,[]=>[]
 | p,t::r=>if (opens p || closes t)=true then t::joinR t r else []
def leftR:Tk→List Tk→List Tk
 | _,[]=>[]
 | p,t::r=>if (opens p || closes t)=true then leftR t r else t::r
theorem join_left:∀ (p:Tk) (r:List Tk),joinR p r++leftR p r=r
 | _,[]=>rfl
 | p,t::r=>by
   unfold joinR leftR
   by_cases h:(opens p || closes t)=true
   ·rw [if_pos h,if_pos h,List.cons_append,join_left t r]
   ·rw [if_neg h,if_neg h,List.nil_append]
def restT (l:List Tk):Bytes:=match l with | []=>[] | _=>32::spell l
theorem restT_cons (t:Tk) (l:List Tk):restT (t::l)=32::spell (t::l):=rfl
theorem spellR_split:∀ (p:Tk) (r:List Tk),spellR p r=spellR p (joinR p r)++restT (leftR p r)
 | _,[]=>rfl
 | p,t::r=>by
   have ih:=spellR_split t r
   unfold joinR leftR
   by_cases h:(opens p || closes t)=true
   ·rw [if_pos h,if_pos h]
    show gapT p t++oneT t++spellR t r=gapT p t++oneT t++spellR t (joinR t r)++_
    rw [ih]
    simp
   ·rw [if_neg h,if_neg h]
    show gapT p t++oneT t++spellR t r=[]++restT (t::r)
    rw [restT_cons]
    unfold gapT
    rw [if_neg h]
    rfl
theorem cut_rest (l:List Tk):cutGo false (restT l)=0:=by
 cases l with
 | nil=>rfl
 | cons t l=>rw [restT_cons,cutGo,if_pos (by decide)]
theorem cut_join:∀ (r:List Tk) (p:Tk),(∀ t∈p::r,LexT t)→∀ X,cutGo false (oneT p++spellR p (joinR p r)++X)=(oneT p++spellR p (joinR p r)).length+cutGo false X
 | [],p,h,X=>by
   show cutGo false (oneT p++[]++X)=(oneT p++[]).length+_
   rw [List.append_nil]
   exact lexT_cut (h p (by simp)) X
 | t::r,p,h,X=>by
   have ih:=cut_join r t (fun x hx=>h x (by simp at hx ⊢;exact .inr hx)) X
   have hp:=lexT_cut (h p (by simp))
   unfold joinR
   by_cases hg:(opens p || closes t)=true
   ·rw [if_pos hg]
    have e:spellR p (t::joinR t r)=oneT t++spellR t (joinR t r):=by
     show gapT p t++oneT t++spellR t (joinR t r)=_
     unfold gapT
     rw [if_pos hg,List.nil_append]
    rw [e,List.append_assoc,hp,ih]
    simp only [List.length_append]
    omega
   ·rw [if_neg hg]
    show cutGo false (oneT p++[]++X)=(oneT p++[]).length+_
    rw [List.append_nil]
    exact hp X
theorem closes_one {t:Tk} (h:closes t=true):(oneT t).length=1∧opens t=false:=by
 have h1:t.kind=4∧(t.s=kw_comma∨t.s=kw_shut):=by simpa [closes] using h
 have h2:oneT t=t.s:=by unfold oneT;rw [if_neg (by omega),if_neg (by omega)]
 rw [h2]
 rcases h1.2 with e | e<;>rw [e]<;>refine ⟨rfl,?_⟩<;>simp [opens,e,kw_comma,kw_shut,kw_open]
theorem opens_one {t:Tk} (h:opens t=true):(oneT t).length=1:=by
 have h1:t.kind=4∧t.s=kw_open:=by simpa [opens] using h
 have h2:oneT t=t.s:=by unfold oneT;rw [if_neg (by omega),if_neg (by omega)]
 rw [h2,h1.2]
 rfl
theorem join_len:∀ (r:List Tk) (p:Tk),(∀ t∈p::r,LexT t)→(oneT p++spellR p (joinR p r)).length≤130+r.length∧(closes p=true→(oneT p++spellR p (joinR p r)).length≤1+r.length)
 | [],p,h=>by
   have hp:=lexT_small (h p (by simp))
   show (oneT p++[]).length≤130+0∧(_→(oneT p++[]).length≤1+0)
   rw [List.append_nil]
   exact ⟨by omega,fun hc=>by have:=(closes_one hc).1;omega⟩
 | t::r,p,h=>by
   have hp:=lexT_small (h p (by simp))
   obtain ⟨i1,i2⟩:=join_len r t (fun x hx=>h x (by simp at hx ⊢;exact .inr hx))
   unfold joinR
   by_cases hg:(opens p || closes t)=true
   ·rw [if_pos hg]
    have e:spellR p (t::joinR t r)=oneT t++spellR t (joinR t r):=by
     show gapT p t++oneT t++spellR t (joinR t r)=_
     unfold gapT
     rw [if_pos hg,List.nil_append]
    rw [e,List.length_append,List.length_cons]
    rw [Bool.or_eq_true] at hg
    refine ⟨?_,fun hc=>?_⟩
    ·rcases hg with hg | hg
     ·have:=opens_one hg
      omega
     ·have:=i2 hg
      omega
    ·obtain ⟨c1,c2⟩:=closes_one hc
     rw [c2] at hg
     rcases hg with hg | hg
     ·cases hg
     ·have:=i2 hg
      omega
   ·rw [if_neg hg]
    show (oneT p++[]).length≤_∧(_→(oneT p++[]).length≤_)
    rw [List.append_nil,List.length_cons]
    exact ⟨by omega,fun hc=>by have:=(closes_one hc).1;omega⟩
theorem piece_at {p:Tk} {r:List Tk} (h:∀ t∈p::r,LexT t) (hn:(p::r).length≤1024):∃ (one:Bytes) (xs:List Tok),spell (p::r)=one++restT (leftR p r)∧cutGo false (spell (p::r))=one.length∧0<one.length∧one.length≤2048∧lexS one=(xs,0,0)∧xs.map tk=p::joinR p r:=by
 have e:spell (p::r)=(oneT p++spellR p (joinR p r))++restT (leftR p r):=by
  show oneT p++spellR p r=_
  rw [List.append_assoc,← spellR_split]
 have hl:=(join_len r p h).1
 rw [List.length_cons] at hn
 have hsub:∀ t∈p::joinR p r,LexT t:=by
  intro t ht
  refine h t ?_
  rcases List.mem_cons.1 ht with rfl | ht
  ·simp
  ·rw [← join_left p r]
   simp [ht]
 have h2048:(oneT p++spellR p (joinR p r)).length≤2048:=by omega
 obtain ⟨xs,x1,x2⟩:=lex_spell hsub h2048
 refine ⟨oneT p++spellR p (joinR p r),xs,e,?_,?_,h2048,x1,x2⟩
 ·rw [e,cut_join r p h,cut_rest,Nat.add_zero]
 ·obtain ⟨_,c,s,es,_⟩:=h p (by simp)
  rw [es]
  simp
end Go.Proofs.YtnaehhpikhlppaaGreatDoor.ParS
