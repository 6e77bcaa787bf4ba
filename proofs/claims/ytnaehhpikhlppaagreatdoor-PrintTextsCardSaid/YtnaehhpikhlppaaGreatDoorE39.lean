/- Several texts of the proof, joined. -/
import Derived.Test.YtnaehhpikhlppaaGreatDoorE38
import Derived.Test.YtnaehhpikhlppaaGreatDoorE17
set_option maxHeartbeats 4000000
set_option maxRecDepth 100000
set_option linter.unusedVariables false
set_option linter.unusedSimpArgs false
namespace Go.Proofs.YtnaehhpikhlppaaGreatDoor
open Go.RowKit LexS ParS BigFrame
attribute [local go_sem] field_tok1 field_tok2
attribute [local go_sem] World.cell?_alloc_some cell_drewN_new free_drewN_new cell_drew_new free_drew_new
section
variable {α β:Type}
def thenA (y:Except Er (α×List Tk×List Nd)) (f:α→M β):Except Er (β×List Tk×List Nd):=match y with
 | .error e=>.error e
 | .ok (a,ts,ns)=>f a ts ns
def measA (y:Except Er (α×List Tk×List Nd)):Nat:=match y with
 | .error _=>0
 | .ok (_,ts,_)=>ts.length+1
theorem thenA_bind (p:M α) (f:α→M β) (ts:List Tk) (ns:List Nd):M.bind p f ts ns=thenA (p ts ns) f:=by
 unfold M.bind
 rcases p ts ns with er | ⟨a,ts2,ns2⟩<;>rfl
theorem goP_bind (p:M α) (f:α→M β) (st:RSt):goP (M.bind p f) st=thenA (goP p st) f:=by
 rcases st with e | ⟨ts,ns⟩
 ·rfl
 ·exact thenA_bind p f ts ns
theorem manyGo_noneR {f:M α} {k:Nat} {acc:List α} {ts:List Tk} {ns:List Nd} (h:sees kw_comma ts=none):manyGo f (k+1) acc ts ns=.ok (acc,ts,ns):=by
 rw [manyGo]
 dsimp only
 rw [h]
theorem manyGo_some {f:M α} {k:Nat} {acc:List α} {ts ts1:List Tk} {ns:List Nd} (h:sees kw_comma ts=some ts1):manyGo f (k+1) acc ts ns=thenA (f ts1 ns) fun a=>manyGo f k (acc++[a]):=by
 rw [manyGo]
 dsimp only
 rw [h]
 exact thenA_bind _ _ _ _
end
section
variable {base r deep d2:Nat} {tv nv nv' lv:Value} {T:List Tok} {st st1 st2:RSt} {ts ts1 ts2:List Tk} {ns ns1:List Nd} {W W' w1 w2 W1 wr wr2:World}
theorem RF.grown {row:Option Nat} (h0:RF base r tv T deep st nv W) (h:RF base r tv T deep st2 nv w1) (m:Mv r W w1) (hg:w1.grownBy w2 row) (hr:∀ k,row=some k→W.heap.size≤k) (hn:∀ ts ns,st2=.ok (ts,ns)→∃ ts',st=.ok (ts',ns)):RF base r tv T deep st2 nv w2∧Mv r W w2:=by
 have m2:Mv r W w2:=Mv.grown m hg hr
 have hb:Blk w2 r 81 _:=(hg.block r h.box.lt (fun e=>by
  have h1:=hr r e.symm
  have h2:=h0.box.lt
  omega)).trans h.box
 exact ⟨h0.again m2 hb h.left h.suf hn,m2⟩
theorem name_eq (st:RSt):goP name st=thenA (goP (take 1) st) fun t=>M.pure t.s:=goP_bind _ _ st
theorem run_name (st:RSt):run name st=run (take 1) st:=by
 unfold run
 rw [name_eq]
 rcases goP (take 1) st with e | ⟨t,ts,ns⟩<;>rfl
theorem name_val {s:Bytes} (h:goP name st=.ok (s,ts,ns)):s=(tokR 1 st).s:=by
 rw [name_eq] at h
 unfold tokR
 rcases hx:goP (take 1) st with e | ⟨t,ts2,ns2⟩
 ·rw [hx] at h
  cases h
 ·rw [hx] at h
  cases h
  rfl
structure NK (base r:Nat) (tv:Value) (T:List Tok) (deep:Nat) (st:RSt) (nv:Value) (W:World) (f:Nat) (y:Except Er (List Bytes×List Tk×List Nd)) (l:List Bytes) (lv:Value) (wr:World):Prop where
 eq:goP names st=thenA y fun acc=>manyGo name f acc
 fl:∀ acc ts ns,y=.ok (acc,ts,ns)→ts.length<f∧l=acc
 rf:RF base r tv T deep (stOf y) nv wr
 mv:Mv r W wr
 row:wr.ownsRow W.heap.size 9 1 lv l.length (strsL l)
 bd:l.length+measA y≤1100
 still:∀ ts ns,stOf y=.ok (ts,ns)→∃ ts',st=.ok (ts',ns)
def NamesP (base r:Nat) (tv:Value) (T:List Tok) (deep:Nat) (st:RSt) (nv:Value) (W:World) (e:Ending) (W':World):Prop :=
 ∃ (lv:Value) (l:List Bytes),e=.returned lv∧(∀ acc ts ns,goP names st=.ok (acc,ts,ns)→l=acc)∧W'.ownsRow W.heap.size 9 1 lv l.length (strsL l)∧RF base r tv T deep (run names st) nv W'∧Mv r W W'
theorem NK.start (h0:RF base r tv T deep st nv W) (h:RF base r tv T deep (run (take 1) st) nv w1) (m:Mv r W w1):NK base r tv T deep st nv W fuel (thenA (goP name st) fun s=>M.pure [s]) [(tokR 1 st).s] (.slice (some ⟨w1.heap.size,0,none⟩) 1 1) (w1.alloc (.cells #[.string (BA (tokR 1 st).s)] 9)):=by
 have hb:Below w1.heap.size w1 (w1.alloc (.cells #[.string (BA (tokR 1 st).s)] 9)):=(Below.refl _ _).alloc (Nat.le_refl _) _
 have hst:stOf (thenA (goP name st) fun s=>M.pure [s])=run (take 1) st:=by
  rw [← run_name]
  unfold run
  rcases goP name st with e | ⟨s,ts,ns⟩<;>rfl
 refine ⟨?_,fun acc ts ns e=>?_,by rw [hst];exact h.kept hb,Stp.trans m (Stp.of hb),own_blk (Blk.new w1 _ _) m.size rfl (by decide),?_,fun ts ns e=>run_take_left (by rw [← hst];exact e)⟩
 ·rw [show goP names st=thenA (goP name st) fun a ts ns=>manyGo name fuel [a] ts ns from goP_bind _ _ st]
  rcases goP name st with e | ⟨s,ts,ns⟩<;>rfl
 ·have h2:=h.left
  have h3:=h.few
  rw [← hst,e] at h2
  have h2':ts.length≤T.length:=h2
  refine ⟨by unfold fuel;omega,?_⟩
  rcases hx:goP name st with er | ⟨s,ts',ns'⟩
  ·rw [hx] at e;cases e
  ·rw [hx] at e
   cases e
   rw [name_val hx]
 ·have h2:=h.left
  have h3:=h.few
  rw [← hst] at h2
  rcases hx:(thenA (goP name st) fun s=>M.pure [s]) with er | ⟨s,ts',ns'⟩
  ·simp [measA]
  ·rw [hx] at h2
   have h2':ts'.length≤T.length:=h2
   simp [measA]
   omega
theorem NK.stop {f:Nat} {y:Except Er (List Bytes×List Tk×List Nd)} {l:List Bytes} (h:NK base r tv T deep st nv W f y l lv wr) (hs:seesR kw_comma (stOf y)=false):goP names st=y:=by
 rw [h.eq]
 rcases y with er | ⟨acc,ts,ns⟩
 ·rfl
 ·have hf:=(h.fl _ _ _ rfl).1
  obtain ⟨f1,rfl⟩:∃ f1,f=f1+1:=⟨f-1,by omega⟩
  exact manyGo_noneR (seesR_none hs)
theorem NK.next {f:Nat} {t:Tk} {acc l:List Bytes} {s:Bytes} (h:NK base r tv T deep st nv W f (.ok (acc,t::ts1,ns)) l lv wr) (hs:sees kw_comma (t::ts1)=some ts1) (hsv:s=(tokR 1 (.ok (ts1,ns))).s)
 (h2:RF base r tv T deep (run (take 1) (.ok (ts1,ns))) nv w2) (m2:Mv r W w2) {lv':Value} (ho:w2.ownsRow W.heap.size 9 1 lv' (l.length+1) (strsL l++[.string (BA s)])) :
 ∃ f2 y2,NK base r tv T deep st nv W f2 y2 (l++[s]) lv' w2∧measA y2<measA (.ok (acc,t::ts1,ns):Except Er (List Bytes×List Tk×List Nd)):=by
 have hf:=(h.fl _ _ _ rfl).1
 obtain rfl:=(h.fl _ _ _ rfl).2
 obtain ⟨f1,rfl⟩:∃ f1,f=f1+1:=⟨f-1,by omega⟩
 have hst:stOf (thenA (goP name (.ok (ts1,ns))) fun s=>M.pure (l++[s]))=run (take 1) (.ok (ts1,ns)):=by
  rw [← run_name]
  unfold run
  rcases goP name (.ok (ts1,ns)) with e | ⟨s,ts,ns⟩<;>rfl
 have hlt:∀ acc' ts' ns',(thenA (goP name (.ok (ts1,ns))) fun s=>M.pure (l++[s]))=.ok (acc',ts',ns')→ts'.length≤ts1.length∧acc'=l++[s]:=by
  intro acc' ts' ns' e
  have e1:run (take 1) (.ok (ts1,ns))=.ok (ts',ns'):=by rw [← hst,e];rfl
  obtain ⟨t0,rfl,_,_,_⟩:=take_inv e1
  refine ⟨by simp,?_⟩
  rcases hx:goP name (.ok (t0::ts',ns)) with er | ⟨s',ts2,ns2⟩
  ·rw [hx] at e;cases e
  ·rw [hx] at e
   cases e
   rw [hsv,name_val hx]
 have hbd:=h.bd
 simp only [measA,List.length_cons] at hbd
 refine ⟨f1,thenA (goP name (.ok (ts1,ns))) fun s=>M.pure (l++[s]),⟨?_,fun acc' ts' ns' e=>?_,by rw [hst];exact h2,m2,?_,?_,fun ts' ns' e=>?_⟩,?_⟩
 ·rw [h.eq]
  show manyGo name (f1+1) l (t::ts1) ns=_
  rw [manyGo_some hs]
  show thenA (goP name (.ok (ts1,ns))) _=_
  rcases goP name (.ok (ts1,ns)) with e | ⟨s,ts,ns⟩<;>rfl
 ·obtain ⟨e1,e2⟩:=hlt _ _ _ e
  simp only [List.length_cons] at hf
  exact ⟨by omega,e2.symm⟩
 ·rw [List.length_append,show strsL (l++[s])=strsL l++[.string (BA s)] by simp [strsL]]
  exact ho
 ·rcases hx:(thenA (goP name (.ok (ts1,ns))) fun s=>M.pure (l++[s])) with er | ⟨acc',ts',ns'⟩
  ·simp only [measA,List.length_append,List.length_cons,List.length_nil]
   omega
  ·have:=(hlt _ _ _ hx).1
   simp only [measA,List.length_append,List.length_cons,List.length_nil]
   omega
 ·rw [hst] at e
  obtain ⟨ts'',e2⟩:=run_take_left e
  cases e2
  exact h.still _ _ rfl
 ·rcases hx:(thenA (goP name (.ok (ts1,ns))) fun s=>M.pure (l++[s])) with er | ⟨acc',ts',ns'⟩
  ·simp [measA]
  ·have:=(hlt _ _ _ hx).1
   simp only [measA,List.length_cons]
   omega
theorem names_r (h:RF base r tv T deep st nv W):Calls Tryz.prog 122 #[RP r] W (NamesP base r tv T deep st nv W):=by
 have HN:=Lib.hid (kind_r 1 h)
 have H:=Lib.hid h
 obtain ⟨i0,hi0,hz0,hz1,hz2⟩:=info_parts infoStr
 clear h
 go_enter Tryz.func122,Tryz.ntmps122
 go_wp2_with fail
 refine HN.out.mono ?_
 rintro e w1 ⟨v1,rfl,⟨a1,rfl⟩,h1,m1⟩
 have HJ:=Lib.hid (NK.start H.out h1 m1)
 obtain ⟨y0,hy0⟩:∃ y0,y0=(thenA (goP name st) fun s=>M.pure [s]):=⟨_,rfl⟩
 obtain ⟨t,ht⟩:∃ t,t=tokR 1 st:=⟨_,rfl⟩
 rw [← hy0,← ht] at HJ
 rw [← ht]
 clear h1 m1 hy0 ht
 go_wp2_with fail
 go_loopg [3] (measA y0+1) (fun gk lv wr => ∃ f y l,measA y<gk∧NK base r tv T deep st nv W f y l lv wr)
 case atStart=>exact ⟨_,_,_,by omega,HJ.out⟩
 case round =>
  obtain ⟨f,y,l,hgk,hj⟩:=hrel
  have HK:=Lib.hid hj
  clear hj HJ
  cases hs:seesR kw_comma (stOf y) with
  | false =>
    have HE:=Lib.hid (HK.out.stop hs)
    have hsee:=sees_r kw_comma HK.out.rf
    rw [hs,seesR_no hs] at hsee
    have HS:=Lib.hid hsee
    clear hs hsee
    go_wp2_with fail
    refine HS.out.mono ?_
    rintro e w2 ⟨rfl,h2,m2⟩
    have HR:=Lib.hid (row_mv HK.out.row m2 (fun e=>by
     have h3:=(HK.out.row.lt _ e).1
     have h4:=H.out.box.lt
     omega))
    have HF:=Lib.hid (And.intro h2 (Stp.trans HK.out.mv m2))
    clear h2 m2
    go_wp2_with fail
    exact bodyPost_ret (results_tmp rfl _ _ _) rfl ⟨u3,l,rfl,fun acc ts ns e=>(HK.out.fl acc ts ns (by rw [← HE.out];exact e)).2,HR.out,by unfold run;rw [HE.out];exact HF.out.1,HF.out.2⟩
  | true =>
    obtain ⟨t2,ts1,ns,hst,hn,hsw⟩:=seesR_ok hs
    obtain ⟨acc,rfl⟩:∃ acc,y=.ok (acc,t2::ts1,ns):=by
     rcases y with er | ⟨acc,ts',ns'⟩
     ·cases hst
     ·cases hst
      exact ⟨acc,rfl⟩
    have hsee:=sees_r kw_comma HK.out.rf
    rw [hs,hn] at hsee
    have HS:=Lib.hid hsee
    have HSW:=Lib.hid hsw
    clear hs hsee hn hst hsw
    go_wp2_with fail
    refine HS.out.mono ?_
    rintro e w2 ⟨rfl,h2,m2⟩
    have HR2:=Lib.hid (row_mv HK.out.row m2 (fun e=>by
     have h3:=(HK.out.row.lt _ e).1
     have h4:=H.out.box.lt
     omega))
    have HN2:=Lib.hid (kind_r 1 h2)
    have M2:=Lib.hid (Stp.trans HK.out.mv m2)
    clear h2 m2
    go_wp2_with fail
    refine HN2.out.mono ?_
    rintro e w3 ⟨v3,rfl,⟨a3,rfl⟩,h3,m3⟩
    obtain ⟨s,hsv⟩:∃ s,s=(tokR 1 (.ok (ts1,ns))).s:=⟨_,rfl⟩
    rw [← hsv]
    have HSV:=Lib.hid hsv
    have hb3:Below w3.heap.size w3 (w3.alloc (.cells #[.string (BA s)] 9)):=(Below.refl _ _).alloc (Nat.le_refl _) _
    have HRW:=Lib.hid (own_kept (row_mv HR2.out m3 (fun e=>by
     have h3:=(HR2.out.lt _ e).1
     have h4:=H.out.box.lt
     omega)) hb3)
    have H3:=Lib.hid (h3.kept hb3)
    have M3:=Lib.hid (Stp.trans (Stp.trans M2.out m3) (Stp.of hb3))
    have HNW:=Lib.hid (blk_cells (Blk.new w3 9 #[.string (BA s)]))
    have hbd:=HK.out.bd
    have hlen:l.length≤1100:=by omega
    clear h3 m3 hsv hb3 hbd
    go_wp2_with (at_builtin;refine wpList_append_own _ rfl _ _ _ rfl W.heap.size 9 i0 _ 1 16 (by kernel_rfl) hi0 hz0 hz1 hz2 rfl (by decide) _ l.length (strsL l) rfl HRW.out ⟨w3.heap.size,0,none⟩ 1 1 [.string (BA s)] rfl rfl HNW.out (by simp [Value.oneCell']) (by simp only [maxLen];omega) (by omega) M3.out.size ?_)
    intro lv' w5 ho hgr _
    have hst2:∀ ts ns',run (take 1) (.ok (ts1,ns))=.ok (ts,ns')→∃ ts',st=.ok (ts',ns'):=fun ts ns' e=>by
     obtain ⟨ts'',e2⟩:=run_take_left e
     cases e2
     exact HK.out.still _ _ rfl
    have hlv:∀ k,u3.ownBlock=some k→W.heap.size≤k:=fun k hk=>(HRW.out.lt k hk).1
    obtain ⟨g1,g2⟩:=RF.grown H.out H3.out M3.out hgr hlv hst2
    obtain ⟨f2,y2,hj2,hm2⟩:=HK.out.next HSW.out HSV.out g1 g2 ho
    have HJ2:=Lib.hid hj2
    have hm3:measA y2+1<gk:=by omega
    clear ho hgr hst2 hlv g1 g2 hj2 hm2
    go_wp2_with fail
    go_roundg (measA y2+1)
    case measure=>omega
    case rel=>exact ⟨f2,y2,_,by omega,HJ2.out⟩
end
end Go.Proofs.YtnaehhpikhlppaaGreatDoor
