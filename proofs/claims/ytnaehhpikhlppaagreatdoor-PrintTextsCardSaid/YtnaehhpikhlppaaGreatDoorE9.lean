/- Several texts of the proof, joined. -/
import Derived.Test.YtnaehhpikhlppaaGreatDoorE8
import Derived.Test.YtnaehhpikhlppaaGreatDoorE7
import Derived.OwnWalk
import Derived.Laws.AppendOwn
import Derived.ArgAppend
import Derived.Deep.Quiet
import Derived.Laws.StructEq
set_option maxHeartbeats 4000000
set_option maxRecDepth 100000
set_option linter.unusedVariables false
set_option linter.unusedSimpArgs false
namespace Go.Proofs.YtnaehhpikhlppaaGreatDoor.ParS
open LexS
def lastK:Tk→List Tk→Tk
 | p,[]=>p
 | _,t::r=>lastK t r
theorem lastK_app:∀ (l:List Tk) (p t:Tk) (r:List Tk),lastK p (l++t::r)=lastK t r
 | [],_,_,_=>rfl
 | x::l,_,t,r=>lastK_app l x t r
theorem spellR_app:∀ (l:List Tk) (p t:Tk) (r:List Tk),spellR p (l++t::r)=spellR p l++(gapT (lastK p l) t++spell (t::r))
 | [],p,t,r=>by
   show gapT p t++oneT t++spellR t r=[]++(gapT p t++(oneT t++spellR t r))
   simp
 | x::l,p,t,r=>by
   show gapT p x++oneT x++spellR x (l++t::r)=gapT p x++oneT x++spellR x l++_
   rw [spellR_app l x t r]
   simp [lastK]
def Mid (l:List Tk):Prop := ∃ p r,l=p::r∧closes p=false∧opens (lastK p r)=false
theorem mid_one {t:Tk} (h1:closes t=false) (h2:opens t=false):Mid [t]:=⟨t,[],rfl,h1,h2⟩
theorem mid_wd (s:Bytes):Mid [wd s]:=mid_one rfl rfl
theorem mid_nm (n:Int):Mid [nm n]:=mid_one rfl rfl
theorem mid_tx (s:Bytes):Mid [tx s]:=mid_one rfl rfl
theorem Mid.app {a b:List Tk} (ha:Mid a) (hb:Mid b):Mid (a++b):=by
 obtain ⟨p,r,rfl,h1,_⟩:=ha
 obtain ⟨t,u,rfl,_,h2⟩:=hb
 exact ⟨p,r++t::u,rfl,h1,by rw [lastK_app];exact h2⟩
theorem spell_two {a b:List Tk} (ha:Mid a) (hb:Mid b):spell (a++b)=spell a++32::spell b:=by
 obtain ⟨p,r,rfl,_,h1⟩:=ha
 obtain ⟨t,u,rfl,h2,_⟩:=hb
 show oneT p++spellR p (r++t::u)=oneT p++spellR p r++32::spell (t::u)
 rw [spellR_app]
 unfold gapT
 rw [if_neg (by rw [h1,h2];simp)]
 simp
theorem Mid.comma {a b:List Tk} (ha:Mid a) (hb:Mid b):Mid (a++sg kw_comma::b):=by
 obtain ⟨p,r,rfl,h1,_⟩:=ha
 obtain ⟨t,u,rfl,_,h2⟩:=hb
 exact ⟨p,r++sg kw_comma::t::u,rfl,h1,by rw [lastK_app];exact h2⟩
theorem spell_comma {a b:List Tk} (ha:Mid a) (hb:Mid b):spell (a++sg kw_comma::b)=spell a++44::32::spell b:=by
 obtain ⟨p,r,rfl,_,h1⟩:=ha
 obtain ⟨t,u,rfl,h2,_⟩:=hb
 show oneT p++spellR p (r++sg kw_comma::t::u)=oneT p++spellR p r++44::32::spell (t::u)
 rw [spellR_app]
 have e:spell (sg kw_comma::t::u)=44::(gapT (sg kw_comma) t++spell (t::u)):=by
  show [44]++(gapT (sg kw_comma) t++oneT t++spellR t u)=_
  rw [List.append_assoc]
  rfl
 rw [e]
 have g1:gapT (lastK p r) (sg kw_comma)=[]:=by
  unfold gapT
  rw [if_pos (by rw [show closes (sg kw_comma)=true from rfl,Bool.or_true])]
 have g2:gapT (sg kw_comma) t=[32]:=by
  unfold gapT
  rw [if_neg (by rw [h2,show opens (sg kw_comma)=false from rfl];simp)]
 rw [g1,g2]
 simp
theorem Mid.brk {l:List Tk} (h:Mid l):Mid ([sg kw_open]++l++[sg kw_shut]):=by
 obtain ⟨p,r,rfl,_,_⟩:=h
 refine ⟨sg kw_open,(p::r)++[sg kw_shut],by simp,rfl,?_⟩
 rw [lastK_app]
 rfl
theorem spell_brk {l:List Tk} (h:Mid l):spell ([sg kw_open]++l++[sg kw_shut])=40::(spell l++[41]):=by
 obtain ⟨p,r,rfl,_,_⟩:=h
 have e:spell ([sg kw_open]++(p::r)++[sg kw_shut])=[40]++(gapT (sg kw_open) p++oneT p++spellR p (r++sg kw_shut::[])):=by simp [spell,spellR];rfl
 rw [e,spellR_app]
 have g1:gapT (sg kw_open) p=[]:=by
  unfold gapT
  rw [if_pos (by rw [show opens (sg kw_open)=true from rfl,Bool.true_or])]
 have g2:gapT (lastK p r) (sg kw_shut)=[]:=by
  unfold gapT
  rw [if_pos (by rw [show closes (sg kw_shut)=true from rfl,Bool.or_true])]
 rw [g1,g2]
 show [40]++([]++oneT p++(spellR p r++([]++[41])))=40::(oneT p++spellR p r++[41])
 simp
def valB (v:Val):Bytes:=if v.kind=1 then Lib.itoa v.n else if v.kind=2 then quoteS v.s else if v.n=1 then [116,114,117,101] else [102,97,108,115,101]
def brkB (rank wanted:Nat) (l:Bytes):Bytes:=if rank<wanted then 40::(l++[41]) else l
def Cd.bodyB:Cd→Bytes
 | .cmp s n v=>s++(32::(signW n++[32]))++valB v
 | .has s t=>s++[32,104,97,115,32]++quoteS t
 | .not c=>[110,111,116,32]++brkB c.rank 3 c.bodyB
 | .and a b=>brkB a.rank 2 a.bodyB++[32,97,110,100,32]++brkB b.rank 3 b.bodyB
 | .or a b=>brkB a.rank 1 a.bodyB++[32,111,114,32]++brkB b.rank 2 b.bodyB
def Cd.textB (w:Nat) (c:Cd):Bytes:=brkB c.rank w c.bodyB
theorem sign_mid {n:Nat} (h1:1≤n) (h2:n≤6):Mid [sg (signW n)]:=by
 have:n=1∨n=2∨n=3∨n=4∨n=5∨n=6:=by omega
 rcases this with rfl | rfl | rfl | rfl | rfl | rfl<;>exact mid_one (by decide) (by decide)
theorem one_wd (s:Bytes):spell [wd s]=s:=by show s++[]=s;simp
theorem one_sg (s:Bytes):spell [sg s]=s:=by show s++[]=s;simp
theorem one_nm (n:Int):spell [nm n]=Lib.itoa n:=by show Lib.itoa n++[]=_;simp
theorem one_tx (s:Bytes):spell [tx s]=quoteS s:=by show quoteS s++[]=_;simp
theorem val_mid {v:Val} (h:ValOk v):Mid (valT v)∧spell (valT v)=valB v:=by
 obtain ⟨k,n,s⟩:=v
 unfold ValOk at h
 dsimp only at h
 rcases h with ⟨rfl,rfl⟩ | ⟨rfl,rfl⟩ | ⟨rfl,rfl,rfl | rfl⟩
 ·exact ⟨mid_nm n,one_nm n⟩
 ·exact ⟨mid_tx s,one_tx s⟩
 ·exact ⟨mid_wd _,one_wd _⟩
 ·exact ⟨mid_wd _,one_wd _⟩
theorem brk_mid {l:List Tk} {b:Bytes} (rank wanted:Nat) (h:Mid l∧spell l=b):Mid (brk rank wanted l)∧spell (brk rank wanted l)=brkB rank wanted b:=by
 unfold brk brkB
 by_cases hr:rank<wanted
 ·rw [if_pos hr,if_pos hr]
  exact ⟨h.1.brk,by rw [spell_brk h.1,h.2]⟩
 ·rw [if_neg hr,if_neg hr]
  exact h
theorem body_mid:∀ c:Cd,c.Ok→Mid c.body∧spell c.body=c.bodyB
 | .cmp s n v,⟨_,h1,h2,hv⟩=>by
   obtain ⟨m,e⟩:=val_mid hv
   have m1:Mid ([wd s]++[sg (signW n)]):=(mid_wd s).app (sign_mid h1 h2)
   show Mid ([wd s]++[sg (signW n)]++valT v)∧spell ([wd s]++[sg (signW n)]++valT v)=_
   refine ⟨m1.app m,?_⟩
   rw [spell_two m1 m,spell_two (mid_wd s) (sign_mid h1 h2),e,one_wd,one_sg]
   simp [Cd.bodyB]
 | .has s t,_=>by
   have m1:Mid ([wd s]++[wd kw_has]):=(mid_wd s).app (mid_wd _)
   show Mid ([wd s]++[wd kw_has]++[tx t])∧spell ([wd s]++[wd kw_has]++[tx t])=_
   refine ⟨m1.app (mid_tx t),?_⟩
   rw [spell_two m1 (mid_tx t),spell_two (mid_wd s) (mid_wd _),one_wd,one_wd,one_tx]
   simp [Cd.bodyB,kw_has]
 | .not c,h=>by
   obtain ⟨m,e⟩:=brk_mid c.rank 3 (body_mid c h)
   show Mid ([wd kw_not]++brk c.rank 3 c.body)∧spell ([wd kw_not]++brk c.rank 3 c.body)=_
   refine ⟨(mid_wd _).app m,?_⟩
   rw [spell_two (mid_wd _) m,e,one_wd]
   simp [Cd.bodyB,kw_not]
 | .and a b,h=>by
   obtain ⟨m,e⟩:=brk_mid a.rank 2 (body_mid a h.1)
   obtain ⟨m2,e2⟩:=brk_mid b.rank 3 (body_mid b h.2)
   have m1:=m.app (mid_wd kw_and)
   show Mid (brk a.rank 2 a.body++[wd kw_and]++brk b.rank 3 b.body)∧spell (brk a.rank 2 a.body++[wd kw_and]++brk b.rank 3 b.body)=_
   refine ⟨m1.app m2,?_⟩
   rw [spell_two m1 m2,spell_two m (mid_wd _),e,e2,one_wd]
   simp [Cd.bodyB,kw_and]
 | .or a b,h=>by
   obtain ⟨m,e⟩:=brk_mid a.rank 1 (body_mid a h.1)
   obtain ⟨m2,e2⟩:=brk_mid b.rank 2 (body_mid b h.2)
   have m1:=m.app (mid_wd kw_or)
   show Mid (brk a.rank 1 a.body++[wd kw_or]++brk b.rank 2 b.body)∧spell (brk a.rank 1 a.body++[wd kw_or]++brk b.rank 2 b.body)=_
   refine ⟨m1.app m2,?_⟩
   rw [spell_two m1 m2,spell_two m (mid_wd _),e,e2,one_wd]
   simp [Cd.bodyB,kw_or]
theorem cond_text {c:Cd} (h:c.Ok) (w:Nat):Mid (c.tok w)∧spell (c.tok w)=c.textB w:=brk_mid c.rank w (body_mid c h)
def sepB (l:List Bytes):Bytes:=match l with
 | []=>[]
 | x::r=>x++r.flatMap fun y=>44::32::y
theorem sep_mid:∀ (r:List (List Tk)) (a:List Tk),Mid a→(∀ y∈r,Mid y)→Mid (a++r.flatMap fun y=>sg kw_comma::y)∧spell (a++r.flatMap fun y=>sg kw_comma::y)=spell a++(r.map spell).flatMap fun y=>44::32::y
 | [],a,ha,_=>by simpa using ha
 | y::r,a,ha,h=>by
   have hy:=h y (by simp)
   obtain ⟨h1,h2⟩:=sep_mid r (a++sg kw_comma::y) (ha.comma hy) fun x hx=>h x (by simp [hx])
   have e:(a++(y::r).flatMap fun y=>sg kw_comma::y)=(a++sg kw_comma::y)++r.flatMap fun y=>sg kw_comma::y:=by simp
   rw [e]
   refine ⟨h1,?_⟩
   rw [h2,spell_comma ha hy]
   simp
theorem sep_text {l:List (List Tk)} (hne:l ≠ []) (h:∀ y∈l,Mid y):Mid (sep l)∧spell (sep l)=sepB (l.map spell):=by
 cases l with
 | nil=>exact absurd rfl hne
 | cons x r=>exact sep_mid r x (h x (by simp)) fun y hy=>h y (by simp [hy])
theorem names_text {l:List Bytes} (h:l ≠ []):Mid (namesT l)∧spell (namesT l)=sepB l:=by
 obtain ⟨m,e⟩:=sep_text (l:=l.map fun s=>[wd s]) (by simpa using h) (by intro y hy;obtain ⟨s,_,rfl⟩:=List.mem_map.1 hy;exact mid_wd s)
 refine ⟨m,e.trans ?_⟩
 rw [List.map_map]
 congr 1
 conv=>rhs;rw [← List.map_id l]
 exact List.map_congr_left fun s _=>one_wd s
def aggB (a:Nat×Bytes):Bytes:=(if a.1=1 then aggW 1 else aggW a.1++[32])++a.2
theorem agg_mid {a:Nat×Bytes} (h:AggOk a):Mid (aggT a)∧spell (aggT a)=aggB a:=by
 unfold aggT aggB
 rcases h with rfl | ⟨h1,_⟩
 ·rw [if_pos rfl,if_pos rfl]
  exact ⟨mid_wd _,by rw [one_wd];simp⟩
 ·rw [if_neg (by omega),if_neg (by omega)]
  show Mid ([wd (aggW a.1)]++[wd a.2])∧spell ([wd (aggW a.1)]++[wd a.2])=_
  exact ⟨(mid_wd _).app (mid_wd _),by rw [spell_two (mid_wd _) (mid_wd _),one_wd,one_wd];simp⟩
theorem aggs_text {g:List (Nat×Bytes)} (h:g ≠ []) (ok:∀ a∈g,AggOk a):Mid (aggsT g)∧spell (aggsT g)=sepB (g.map aggB):=by
 obtain ⟨m,e⟩:=sep_text (l:=g.map aggT) (by simpa using h) (by intro y hy;obtain ⟨a,ha,rfl⟩:=List.mem_map.1 hy;exact (agg_mid (ok a ha)).1)
 refine ⟨m,e.trans ?_⟩
 rw [List.map_map]
 congr 1
 exact List.map_congr_left fun a ha=>(agg_mid (ok a ha)).2
def Qr.textB:Qr→Bytes
 | .fetch s f t=>[102,101,116,99,104,32]++s++if f=0∧t=1099511627775 then [] else [32,102,114,111,109,32]++Lib.itoa f++[32,116,111,32]++Lib.itoa t
 | .where_ q c=>q.textB++[32,124,32]++[119,104,101,114,101,32]++c.textB 0
 | .keep q l=>q.textB++[32,124,32]++[107,101,101,112,32]++sepB l
 | .align q n=>q.textB++[32,124,32]++[97,108,105,103,110,32]++Lib.itoa n
 | .group q l g=>q.textB++[32,124,32]++[103,114,111,117,112,32]++(if l=[] then [] else sepB l++[32])++[58,32]++sepB (g.map aggB)
 | .top q n s=>q.textB++[32,124,32]++[116,111,112,32]++Lib.itoa n++[32,98,121,32]++s
 | .join q r=>q.textB++[32,124,32]++[106,111,105,110,32,40]++r.textB++[41]
 | .union q r=>q.textB++[32,124,32]++[117,110,105,111,110,32,40]++r.textB++[41]
theorem bar_mid:Mid [sg kw_bar]:=mid_one rfl rfl
theorem colon_mid:Mid [sg kw_colon]:=mid_one rfl rfl
theorem step_mid {q:List Tk} {b:Bytes} (h:Mid q∧spell q=b) (k:Nat):Mid (q++[sg kw_bar,wd (stepW k)])∧spell (q++[sg kw_bar,wd (stepW k)])=b++[32,124,32]++stepW k:=by
 have m1:Mid ([sg kw_bar]++[wd (stepW k)]):=bar_mid.app (mid_wd _)
 show Mid (q++([sg kw_bar]++[wd (stepW k)]))∧spell (q++([sg kw_bar]++[wd (stepW k)]))=_
 refine ⟨h.1.app m1,?_⟩
 rw [spell_two h.1 m1,spell_two bar_mid (mid_wd _),one_wd,one_sg,h.2]
 simp [kw_bar]
theorem query_mid:∀ q:Qr,q.Ok→Mid q.tok∧spell q.tok=q.textB
 | .fetch s f t,_=>by
   have m1:Mid ([wd kw_fetch]++[wd s]):=(mid_wd _).app (mid_wd s)
   have e1:spell ([wd kw_fetch]++[wd s])=[102,101,116,99,104,32]++s:=by rw [spell_two (mid_wd _) (mid_wd _),one_wd,one_wd];simp [kw_fetch]
   show Mid ([wd kw_fetch]++[wd s]++_)∧spell ([wd kw_fetch]++[wd s]++_)=_
   by_cases h:f=0∧t=1099511627775
   ·unfold Qr.textB
    rw [if_pos h,if_pos h,List.append_nil,List.append_nil]
    exact ⟨m1,e1⟩
   ·unfold Qr.textB
    rw [if_neg h,if_neg h]
    have a1:=(mid_wd kw_from).app (mid_nm f)
    have a2:=a1.app (mid_wd kw_to)
    have a3:=a2.app (mid_nm t)
    have e3 : [wd kw_from,nm f,wd kw_to,nm t]=[wd kw_from]++[nm f]++[wd kw_to]++[nm t]:=rfl
    rw [e3]
    refine ⟨m1.app a3,?_⟩
    rw [spell_two m1 a3,e1,spell_two a2 (mid_nm t),spell_two a1 (mid_wd _),spell_two (mid_wd _) (mid_nm f),one_nm,one_nm,one_wd,one_wd]
    simp [kw_from,kw_to]
 | .where_ q c,h=>by
   obtain ⟨m,e⟩:=step_mid (query_mid q h.1) 2
   obtain ⟨m2,e2⟩:=cond_text h.2 0
   exact ⟨m.app m2,by show spell (q.tok++[sg kw_bar,wd (stepW 2)]++c.tok 0)=_;rw [spell_two m m2,e,e2];simp [Qr.textB,stepW,kw_steps]⟩
 | .keep q l,h=>by
   obtain ⟨m,e⟩:=step_mid (query_mid q h.1) 3
   obtain ⟨m2,e2⟩:=names_text h.2
   exact ⟨m.app m2,by show spell (q.tok++[sg kw_bar,wd (stepW 3)]++namesT l)=_;rw [spell_two m m2,e,e2];simp [Qr.textB,stepW,kw_steps]⟩
 | .align q n,h=>by
   obtain ⟨m,e⟩:=step_mid (query_mid q h) 4
   have e0:Qr.tok (.align q n)=q.tok++[sg kw_bar,wd (stepW 4)]++[nm n]:=by simp [Qr.tok]
   rw [e0]
   exact ⟨m.app (mid_nm n),by rw [spell_two m (mid_nm n),e,one_nm];simp [Qr.textB,stepW,kw_steps]⟩
 | .group q l g,⟨h1,_,h3,h4⟩=>by
   obtain ⟨m,e⟩:=step_mid (query_mid q h1) 5
   obtain ⟨m2,e2⟩:=aggs_text h3 h4
   show Mid (q.tok++[sg kw_bar,wd (stepW 5)]++namesT l++[sg kw_colon]++aggsT g)∧spell (q.tok++[sg kw_bar,wd (stepW 5)]++namesT l++[sg kw_colon]++aggsT g)=_
   by_cases hl:l=[]
   ·subst hl
    have e0:namesT []=[]:=rfl
    rw [e0,List.append_nil]
    refine ⟨(m.app colon_mid).app m2,?_⟩
    rw [spell_two (m.app colon_mid) m2,spell_two m colon_mid,e,e2,one_sg]
    simp [Qr.textB,stepW,kw_steps,kw_colon]
   ·obtain ⟨m3,e3⟩:=names_text hl
    refine ⟨((m.app m3).app colon_mid).app m2,?_⟩
    rw [spell_two ((m.app m3).app colon_mid) m2,spell_two (m.app m3) colon_mid,spell_two m m3,e,e2,e3,one_sg]
    simp [Qr.textB,stepW,kw_steps,kw_colon,hl]
 | .top q n s,h=>by
   obtain ⟨m,e⟩:=step_mid (query_mid q h) 6
   have e0:Qr.tok (.top q n s)=q.tok++[sg kw_bar,wd (stepW 6)]++[nm n]++[wd kw_by]++[wd s]:=by simp [Qr.tok]
   rw [e0]
   have a1:=m.app (mid_nm n)
   have a2:=a1.app (mid_wd kw_by)
   exact ⟨a2.app (mid_wd s),by rw [spell_two a2 (mid_wd s),spell_two a1 (mid_wd _),spell_two m (mid_nm n),e,one_nm,one_wd,one_wd];simp [Qr.textB,stepW,kw_steps,kw_by]⟩
 | .join q r,h=>by
   obtain ⟨m,e⟩:=step_mid (query_mid q h.1) 7
   obtain ⟨m2,e2⟩:=query_mid r h.2
   have e0:Qr.tok (.join q r)=q.tok++[sg kw_bar,wd (stepW 7)]++([sg kw_open]++r.tok++[sg kw_shut]):=by simp [Qr.tok]
   rw [e0]
   exact ⟨m.app m2.brk,by rw [spell_two m m2.brk,spell_brk m2,e,e2];simp [Qr.textB,stepW,kw_steps]⟩
 | .union q r,h=>by
   obtain ⟨m,e⟩:=step_mid (query_mid q h.1) 8
   obtain ⟨m2,e2⟩:=query_mid r h.2
   have e0:Qr.tok (.union q r)=q.tok++[sg kw_bar,wd (stepW 8)]++([sg kw_open]++r.tok++[sg kw_shut]):=by simp [Qr.tok]
   rw [e0]
   exact ⟨m.app m2.brk,by rw [spell_two m m2.brk,spell_brk m2,e,e2];simp [Qr.textB,stepW,kw_steps]⟩
end Go.Proofs.YtnaehhpikhlppaaGreatDoor.ParS

namespace Go.Proofs.YtnaehhpikhlppaaGreatDoor
open Go.RowKit LexS
def toksL (l:List Tok):List Value:=l.flatMap fun t=>(tokA t).toList
theorem toksL_app (l:List Tok) (t:Tok):toksL l++(tokA t).toList=toksL (l++[t]):=by simp [toksL]
theorem toksL_len (l:List Tok):(toksL l).length=l.length*4:=by
 induction l with
 | nil=>rfl
 | cons a l ih =>
   have:toksL (a::l)=(tokA a).toList++toksL l:=by simp [toksL]
   rw [this,List.length_append,ih,List.length_cons]
   simp [tokA]
   omega
theorem own_kept {W W1:World} {base:Nat} {e:TypeId} {size:Nat} {v:Value} {n:Nat} {xs:List Value} (h:W.ownsRow base e size v n xs) (hb:Below W.heap.size W W1):W1.ownsRow base e size v n xs:=by
 refine ⟨h.1,?_⟩
 rcases h.2 with h2 | ⟨g,cap,cur,h2,h3,h4,h5⟩
 ·exact .inl h2
 ·exact .inr ⟨g,cap,cur,h2,h3,(hb.block g (Array.getElem?_eq_some_iff.1 h4).1).trans h4,h5⟩
theorem tok_info:(Tryz.prog.info? 65).map (fun i=>(i.zero,i.size,i.bytes))=some (some (.agg #[.int .i64 0,.string ⟨#[]⟩,.int .i64 0,.int .i64 0]),4,40):=by kernel_rfl
def LexRes (x:List Tok×Nat×Nat) (w:World) (e:Ending) (w':World):Prop :=
 ∃ v,e=.returned (.tuple #[v,.int .i64 (x.2.1:Int),.int .i64 (x.2.2:Int)])∧w'.ownsRow w.heap.size 65 4 v x.1.length (toksL x.1)∧Below w.heap.size w w'
def LexRel (s:ByteArray) (w:World) (a:Nat) (acc:List Tok) (v:Value) (wr:World):Prop :=
 a≤s.size∧acc.length≤a∧(∃ k,(s.data.toList.drop a).length<k∧lexS s.data.toList=lexGo k a (s.data.toList.drop a) acc) ∧
 wr.ownsRow w.heap.size 65 4 v acc.length (toksL acc)∧Below w.heap.size w wr
section
variable {s:ByteArray} {w wr:World} {a:Nat} {acc:List Tok} {v:Value} {c:UInt8} {r:Bytes}
theorem LexRel.start (hs:s.size≤2048):LexRel s w 0 [] (.slice none 0 0) w:=by
 refine ⟨Nat.zero_le _,Nat.le_refl _,⟨s.data.toList.length+1,by simp,?_⟩,⟨rfl,.inl ⟨rfl,rfl⟩⟩,Below.refl _ _⟩
 unfold lexS
 rw [if_neg (by rw [size_list];omega)]
 rfl
theorem LexRel.done (h:LexRel s w a acc v wr) (hd:s.data.toList.drop a=[]):lexS s.data.toList=(acc,0,0):=by
 obtain ⟨_,_,⟨k,hk,he⟩,_⟩:=h
 rw [he,hd]
 cases k<;>rfl
theorem LexRel.res (h:LexRel s w a acc v wr) (hd:s.data.toList.drop a=[]):LexRes (lexS s.data.toList) w (.returned (.tuple #[v,.int .i64 0,.int .i64 0])) wr:=by
 rw [h.done hd]
 exact ⟨v,rfl,h.2.2.2.1,h.2.2.2.2⟩
theorem nil_res {x:Nat} {e:Nat} (hb:Below w.heap.size w wr):LexRes ([],x,e) w (.returned (.tuple #[.slice none 0 0,.int .i64 (x:Int),.int .i64 (e:Int)])) wr:=⟨_,rfl,⟨rfl,.inl ⟨rfl,rfl⟩⟩,hb⟩
theorem LexRel.blank (h:LexRel s w a acc v wr) (hd:s.data.toList.drop a=c::r) (hb:blankB c=true):LexRel s w (a+1) acc v wr:=by
 obtain ⟨h1,h2,⟨k,hk,he⟩,h4,h5⟩:=h
 obtain ⟨hlt,_,hr⟩:=byte_at hd
 refine ⟨hlt,by omega,?_,h4,h5⟩
 rw [hd] at hk he
 rw [hr]
 match k,hk,he with
 | k+1,hk,he =>
   refine ⟨k,by simp only [List.length_cons] at hk;omega,?_⟩
   rw [he]
   simp [lexGo,hb]
theorem LexRel.bad (h:LexRel s w a acc v wr) (hd:s.data.toList.drop a=c::r) (hb:blankB c=false) (hn:(oneS (c::r)).2=0):lexS s.data.toList=([],a,110):=by
 obtain ⟨h1,h2,⟨k,hk,he⟩,h4,h5⟩:=h
 rw [hd] at hk he
 match k,hk,he with
 | k+1,hk,he =>
   rw [he]
   simp [lexGo,hb,hn]
theorem LexRel.tok {v':Value} {wr':World} (h:LexRel s w a acc v wr) (hd:s.data.toList.drop a=c::r) (hb:blankB c=false) {y:Tok} {n:Nat} (hy:(y,n)=oneS (c::r)) (hn:n≠0)
 (ho:wr'.ownsRow w.heap.size 65 4 v' (acc.length+1) (toksL acc++(tokA {y with at_:=a}).toList)) (hw:Below w.heap.size w wr') :
 LexRel s w (a+n) (acc++[{y with at_:=a}]) v' wr':=by
 obtain ⟨h1,h2,⟨k,hk,he⟩,h4,h5⟩:=h
 have hle:=oneS_le (c::r)
 rw [← hy,← hd,List.length_drop,size_list] at hle
 dsimp only at hle
 refine ⟨by omega,by simp;omega,?_,by rw [toksL_app] at ho;simpa using ho,hw⟩
 rw [hd] at hk he
 match k,hk,he with
 | k+1,hk,he =>
   refine ⟨k,?_,?_⟩
   ·rw [← List.drop_drop,hd]
    simp only [List.length_cons,List.length_drop] at hk ⊢
    omega
   ·rw [he,← List.drop_drop,hd]
    have h0:(oneS (c::r)).2=n:=by rw [← hy]
    have h1:(oneS (c::r)).1=y:=by rw [← hy]
    simp [lexGo,hb,h0,h1,hn]
end
theorem blk_cells {W:World} {g:Nat} {t:TypeId} {cs:Array Value} (h:Blk W g t cs):∀ j u,cs.toList[j]?=some u→W.cell? ((⟨g,0,none⟩:Addr).add j)=some u:=by
 intro j u hu
 rw [Addr.add_lit,Nat.zero_add,h.cell]
 simpa using hu
theorem new_second (W:World) (x y:Tok):∀ j u,(tokA y).toList[j]?=some u→((W.alloc (.cells (tokA x) 65)).alloc (.cells (tokA y) 65)).cell? ((⟨W.heap.size+1,0,none⟩:Addr).add j)=some u:=by
 have h:=Blk.new (W.alloc (.cells (tokA x) 65)) 65 (tokA y)
 rw [World.size_alloc] at h
 exact blk_cells h
theorem two_base {w W:World} (h:Below w.heap.size w W) (x y:Tok):Below w.heap.size w ((W.alloc (.cells (tokA x) 65)).alloc (.cells (tokA y) 65)) :=
 (h.alloc h.size _).alloc (by rw [World.size_alloc];have:=h.size;omega) _
theorem res_three {P:Program} {f:Func} {p q r:Nat} {tmps:Array Value} {w:World} {x y z:Value} (hf:f.results=#[.tmp p,.tmp q,.tmp r]) (h1:tmps[p]?.getD undef=x) (h2:tmps[q]?.getD undef=y) (h3:tmps[r]?.getD undef=z) :
 (results f tmps).run P w=.ok (.tuple #[x,y,z]) w:=by
 simp [results,hf,go_sem,h1,h2,h3]
theorem lex_any (s:ByteArray) (hs:s.size≤140737488351232) (w:World) (hg:GW w) :
 Calls Tryz.prog 50 #[.string s] w (LexRes (lexS s.data.toList) w):=by
 go_enter Tryz.func50,Tryz.ntmps50
 by_cases h2048:s.size≤2048
 ·have b0:(s.size:Int)≤2048:=by omega
  have hrel0:=LexRel.start (w:=w) h2048
  have H0:=Lib.hid hrel0
  clear hrel0 h2048
  go_wp2_with fail
  go_loopw [2,3] (fun v c wr => ∃ (a:Nat) (acc:List Tok),c=.int .i64 (a:Int)∧LexRel s w a acc v wr) (fun _ c _=>s.size-(intOf c).toNat)
  case atStart=>exact ⟨0,[],rfl,H0.out⟩
  case round =>
   obtain ⟨a,acc,rfl,hrel⟩:=hrel
   have h1:=hrel.1
   match hd:s.data.toList.drop a with
   | [] =>
     have he:=at_end hd
     have HO:=Lib.hid (hrel.res hd)
     clear hrel hd H0
     go_wp2_with fail
     exact bodyPost_ret (res_three rfl rfl rfl rfl) rfl HO.out
   | c::r =>
     obtain ⟨hlt,hc,hr⟩:=byte_at hd
     have hone:=Tryz.strings_Contains_one ⟨#[32,9,10,13]⟩ c
     have hsh:=contains_blank c
     change decide (0≤Lib.indexByte (⟨#[32,9,10,13]⟩:ByteArray).data.toList c)=_ at hsh
     rw [hsh] at hone
     have e1:s.extract a (a+1)=⟨#[c]⟩:=by
      rw [cut_text,List.drop_take,hd]
      have:a+1-a=1:=by omega
      rw [this]
      rfl
     have q0:(0:Int)≤(a:Int)+1:=by omega
     have q2:(a:Int)≤(a:Int)+1:=by omega
     have q3:(0:Int)≤(a:Int):=by omega
     have q1:(a:Int)+1≤(s.size:Int):=by omega
     have t1:((a:Int)+1).toNat=a+1:=by omega
     have w1:IntKind.i64.wrap ((a:Int)+1)=(a:Int)+1:=IntWalk.i64_in _ (by omega)
     clear hsh hr hc
     cases hB:blankB c
     ·rw [hB] at hone
      have hg1:GW wr:=hg.kept hrel.2.2.2.2
      have hl:=list_from s a
      rw [hd] at hl
      have h1any:=one_any (s.extract a s.size) c r hl (by rw [ByteArray.size_extract];omega)
      rw [hl] at h1any
      obtain ⟨⟨y,n⟩,hy⟩:∃ q,q=oneS (c::r):=⟨_,rfl⟩
      rw [← hy] at h1any
      dsimp only at h1any
      rw [tokV_eq y] at h1any
      by_cases hn:n=0
      ·have hend:=hrel.bad hd hB (by rw [← hy];exact hn)
       have HE:=Lib.hid hend
       have HB:=Lib.hid hrel.2.2.2.2
       subst hn
       clear hrel hd hend H0 hl hy hB hg
       go_wp2_with fail
       refine (hone _).mono ?_
       rintro e w2 ⟨rfl,rfl⟩
       go_wp2_with fail
       refine (h1any _ hg1).mono ?_
       rintro e w3 ⟨rfl,hb3⟩
       have HB2:=Lib.hid (chain HB.out hb3)
       clear hb3 h1any hone
       go_wp2_with fail
       exact bodyPost_ret (res_three rfl rfl rfl rfl) rfl (by rw [HE.out];exact nil_res (HB2.out.alloc HB2.out.size _))
      ·have hn0:((n:Int) == 0)=false:=by rw [beq_eq_false_iff_ne];omega
       have HR:=Lib.hid hrel
       have HY:=Lib.hid hy
       have hsz2:acc.length≤2048:=by have:=hrel.2.1;omega
       have hle:=oneS_le (c::r)
       rw [← hy,← hd,List.length_drop,size_list] at hle
       dsimp only at hle
       have HD:=Lib.hid hd
       have HBk:=Lib.hid hB
       clear hrel hd H0 hl hy hB hg
       go_wp2_with fail
       refine (hone _).mono ?_
       rintro e w2 ⟨rfl,rfl⟩
       go_wp2_with fail
       refine (h1any _ hg1).mono ?_
       rintro e w3 ⟨rfl,hb3⟩
       have HO3:=Lib.hid (own_kept HR.out.2.2.2.1 hb3)
       have HB3:=Lib.hid (chain HR.out.2.2.2.2 hb3)
       clear hb3 h1any hone
       obtain ⟨i,hi,hz0,hz1,hz2⟩:=info_parts tok_info
       have HN1:=Lib.hid (new_second w3 {y with at_:=a} {y with at_:=a})
       have HN2:=Lib.hid ((HO3.out.alloc (.cells (tokA {y with at_:=a}) 65)).alloc (.cells (tokA {y with at_:=a}) 65))
       have HN3:=Lib.hid (two_base HB3.out {y with at_:=a} {y with at_:=a})
       go_wp2_with (at_builtin;refine wpList_append_own _ rfl _ _ _ rfl w.heap.size 65 i _ 4 40 (by kernel_rfl) hi hz0 hz1 hz2 rfl (by decide) _ acc.length (toksL acc) rfl HN2.out ⟨w3.heap.size+1,0,none⟩ 1 1 (tokA {y with at_:=a}).toList rfl rfl HN1.out (by simp [tokA,Value.oneCell']) (by simp only [maxLen];omega) (by omega) HN3.out.size ?_)
       intro v' w' ho hgr _
       have HF:=Lib.hid (HR.out.tok HD.out HBk.out HY.out hn ho (HN3.out.grown hgr HN3.out.size (fun k hk=>(HN2.out.lt k hk).1)))
       have w2:IntKind.i64.wrap ((a:Int)+(n:Int))=(a:Int)+n:=IntWalk.i64_in _ (by omega)
       clear ho hgr
       go_wp2_with fail
       exact ⟨⟨a+n,acc++[{y with at_:=a}],by simp,HF.out⟩,by simp [intOf];omega⟩
     ·rw [hB] at hone
      have hnx:=hrel.blank hd hB
      have HN:=Lib.hid hnx
      clear hnx hrel hd H0 hB
      go_wp2_with fail
      refine (hone _).mono ?_
      rintro e w2 ⟨rfl,rfl⟩
      go_wp2_with fail
      exact ⟨⟨a+1,acc,rfl,HN.out⟩,by simp [intOf];omega⟩
 ·have b0:(2048:Int)<(s.size:Int):=by omega
  have hend:lexS s.data.toList=([],0,2):=by
   unfold lexS
   rw [if_pos (by rw [size_list];omega)]
  rw [hend]
  go_wp2_with fail
  exact bodyPost_ret (res_three rfl rfl rfl rfl) rfl (nil_res (Below.refl _ _))
end Go.Proofs.YtnaehhpikhlppaaGreatDoor

namespace Go.Proofs.YtnaehhpikhlppaaGreatDoor
open Go.RowKit LexS
theorem toksL_cons (a:Tok) (l:List Tok):toksL (a::l)=(tokA a).toList++toksL l:=by simp [toksL]
theorem toksL_get:∀ (l:List Tok) (i:Nat) (t:Tok) (j:Nat),l[i]?=some t→j<4→(toksL l)[i*4+j]?=(tokA t).toList[j]?
 | [],i,t,j,h,_=>by simp at h
 | a::l,0,t,j,h,hj=>by
   simp only [List.getElem?_cons_zero,Option.some.injEq] at h
   subst h
   rw [toksL_cons,Nat.zero_mul,Nat.zero_add,List.getElem?_append_left (by simp [tokA];omega)]
 | a::l,i+1,t,j,h,hj=>by
   have ha:(tokA a).toList.length=4:=rfl
   rw [toksL_cons,List.getElem?_append_right (by rw [ha];omega),ha]
   have:(i+1)*4+j-4=i*4+j:=by omega
   rw [this]
   exact toksL_get l i t j (by simpa using h) hj
theorem row_form {W:World} {base:Nat} {v:Value} {l:List Tok} (h:W.ownsRow base 65 4 v l.length (toksL l)) (hn:l ≠ []) :
 ∃ g cap,v=.slice (some ⟨g,0,none⟩) l.length cap∧l.length≤cap∧base≤g∧g<W.heap.size ∧
   ∀ i t,l[i]?=some t→W.cell? ⟨g,i*4,none⟩=some (.int .i64 (t.kind:Int))∧W.cell? ⟨g,i*4+1,none⟩=some (.string ⟨t.s.toArray⟩)∧W.cell? ⟨g,i*4+2,none⟩=some (.int .i64 t.n)∧W.cell? ⟨g,i*4+3,none⟩=some (.int .i64 (t.at_:Int)):=by
 have hf:=fun g hg=>h.cells (g:=g) hg
 have hlt:=h.lt
 rcases h.2 with ⟨_,h2⟩ | ⟨g,cap,cur,h2,h3,h4,h5,_⟩
 ·exact absurd (List.eq_nil_of_length_eq_zero h2) hn
 ·subst h2
  refine ⟨g,cap,rfl,h5,h3,(hlt g rfl).2,fun i t hi=>?_⟩
  have hk:∀ j u,j<4→(tokA t).toList[j]?=some u→W.cell? ⟨g,i*4+j,none⟩=some u:=by
   intro j u hj hu
   have:=hf g rfl (i*4+j) u (by rw [toksL_get l i t j hi hj];exact hu)
   rwa [Addr.add_lit,Nat.zero_add] at this
  exact ⟨hk 0 _ (by omega) rfl,hk 1 _ (by omega) rfl,hk 2 _ (by omega) rfl,hk 3 _ (by omega) rfl⟩
theorem lex_lit (l:Bytes) (x:List Tok×Nat×Nat) (hx:lexS l=x) (hl:l.length≤2048) (w:World) (hg:GW w):Calls Tryz.prog 50 #[.string ⟨l.toArray⟩] w (LexRes x w):=by
 have h:=lex_any ⟨l.toArray⟩ (by simp [ByteArray.size];omega) w hg
 have e:(⟨l.toArray⟩:ByteArray).data.toList=l:=by simp
 rw [e,hx] at h
 exact h
end Go.Proofs.YtnaehhpikhlppaaGreatDoor

namespace Go.Proofs.YtnaehhpikhlppaaGreatDoor
open Go.RowKit LexS BigFrame
def Drawn (w W:World):Prop := ∃ k,W=w.drewN k
theorem Drawn.base (w:World) (k:Nat):Drawn w (w.drewN k):=⟨k,rfl⟩
theorem drewN_twice (w:World) (a b:Nat):(w.drewN a).drewN b=w.drewN (a+b):=by
 simp [World.drewN,Nat.add_assoc]
theorem Drawn.more {w W:World} (h:Drawn w W) (n:Nat):Drawn w (W.drewN n):=by
 obtain ⟨k,rfl⟩:=h
 exact ⟨k+n,drewN_twice w k n⟩
theorem row_max {W:World} {base:Nat} {v:Value} {n:Nat} {xs:List Value} (h:W.ownsRow base 65 4 v n xs):n≤maxLen:=by
 rcases h.2 with ⟨_,h2⟩ | ⟨g,cap,cur,h2,h3,h4,h5,h6,_⟩
 ·rw [h2];exact Nat.zero_le _
 ·exact Nat.le_trans h5 h6
theorem row_any {W:World} {base:Nat} {v:Value} {l:List Tok} (h:W.ownsRow base 65 4 v l.length (toksL l)) :
 ∃ p cap,v=.slice p l.length cap∧l.length≤cap∧l.length≤maxLen∧(l ≠ []→∃ g,p=some ⟨g,0,none⟩∧base≤g∧g<W.heap.size ∧
   ∀ i t,l[i]?=some t→W.cell? ⟨g,i*4,none⟩=some (.int .i64 (t.kind:Int))∧W.cell? ⟨g,i*4+1,none⟩=some (.string ⟨t.s.toArray⟩)∧W.cell? ⟨g,i*4+2,none⟩=some (.int .i64 t.n)∧W.cell? ⟨g,i*4+3,none⟩=some (.int .i64 (t.at_:Int))):=by
 by_cases hn:l=[]
 ·subst hn
  rcases h.2 with ⟨h2,_⟩ | ⟨g,cap,cur,h2,h3,h4,h5,_⟩
  ·exact ⟨none,0,h2,Nat.le_refl _,Nat.zero_le _,fun hc=>absurd rfl hc⟩
  ·exact ⟨_,cap,h2,Nat.zero_le _,Nat.zero_le _,fun hc=>absurd rfl hc⟩
 ·obtain ⟨g,cap,h1,h2,h3,h4,h5⟩:=row_form h hn
  exact ⟨_,cap,h1,h2,row_max h,fun _=>⟨g,rfl,h3,h4,h5⟩⟩
end Go.Proofs.YtnaehhpikhlppaaGreatDoor

namespace Go.Proofs.YtnaehhpikhlppaaGreatDoor
open Go.RowKit LexS BigFrame
theorem ParS.lex_word {s:Bytes} (h:ParS.LexT (ParS.wd s)):lexS s=([⟨1,s,0,0⟩],0,0):=by
 have hs:=ParS.lexT_small h
 obtain ⟨h1,c,r,h2,hb⟩:=h
 have e:ParS.oneT (ParS.wd s)=s:=rfl
 rw [e] at h1 h2 hs
 unfold lexS
 rw [if_neg (by omega),lexGo_tok ⟨c,r,h2,hb⟩ h1 (by rw [h2];simp),List.drop_length,lexGo_nil]
 rfl
theorem tight_any (k:Nat) (w:World) :
 Calls Tryz.prog 57 #[.int .i64 (k:Int)] w fun e w'=>e=.returned (.int .i64 ((if k=12 then 1 else if k=11 then 2 else 3:Nat):Int))∧w'=w:=by
 go_enter Tryz.func57,Tryz.ntmps57
 by_cases h1:k=12
 ·subst h1
  go_wp2_with fail
  exact bodyPost_ret (results_tmp rfl _ _ _) rfl ⟨rfl,rfl⟩
 ·have b1:¬ (k:Int)=12:=by omega
  have b1':decide ((k:Int)=12)=false:=by simp [b1]
  by_cases h2:k=11
  ·subst h2
   go_wp2_with fail
   exact bodyPost_ret (results_tmp rfl _ _ _) rfl ⟨rfl,rfl⟩
  ·have b2:¬ (k:Int)=11:=by omega
   have b2':decide ((k:Int)=11)=false:=by simp [b2]
   go_wp2_with fail
   exact bodyPost_ret (results_tmp rfl _ _ _) rfl ⟨rfl,rfl⟩
theorem short_any (s:ByteArray) (w:World) :
 Calls Tryz.prog 25 #[.string s] w fun e w'=>e=.returned (if 2048<s.size then .tuple #[.string ⟨#[]⟩,.int .i64 2] else .tuple #[.string s,.int .i64 0])∧w'=w:=by
 go_enter Tryz.func25,Tryz.ntmps25
 by_cases h1:2048<s.size
 ·have b1:(2048:Int)<(s.size:Int):=by omega
  go_wp2_with fail
  exact bodyPost_ret (v:=.tuple #[.string ⟨#[]⟩,.int .i64 2]) (by simp [results,Tryz.results25,go_sem]) rfl ⟨rfl,rfl⟩
 ·have b1:¬ (2048:Int)<(s.size:Int):=by omega
  go_wp2_with fail
  exact bodyPost_ret (v:=.tuple #[.string s,.int .i64 0]) (by simp [results,Tryz.results25,go_sem]) rfl ⟨rfl,rfl⟩
theorem plain_word {s:Bytes} (h:ParS.LexT (ParS.wd s)) (w:World) (hg:GW w) :
 Calls Tryz.prog 88 #[.string ⟨s.toArray⟩] w fun e w'=>e=.returned (.bool true)∧Below w.heap.size w w':=by
 have hs:=ParS.lexT_small h
 have e0:ParS.oneT (ParS.wd s)=s:=rfl
 rw [e0] at hs
 have hl:=ParS.lex_word h
 go_enter Tryz.func88,Tryz.ntmps88
 go_wp2_with fail
 refine (lex_lit s _ hl (by omega) w hg).mono ?_
 rintro e w1 ⟨v,rfl,hr,hb⟩
 obtain ⟨g,cap,rfl,hc,h1,h2,h3⟩:=row_form hr (by simp)
 obtain ⟨k1,k2,k3,k4⟩:=h3 0 ⟨1,s,0,0⟩ rfl
 rw [Nat.zero_mul] at k1 k2 k3 k4
 dsimp only at k1 k2 k3 k4 hc h2 h1
 have hl1:([⟨1,s,0,0⟩]:List Tok).length=1:=rfl
 rw [hl1] at hc ⊢
 go_wp2_with fail
 exact bodyPost_ret (results_tmp rfl _ _ _) rfl ⟨rfl,hb⟩
end Go.Proofs.YtnaehhpikhlppaaGreatDoor
