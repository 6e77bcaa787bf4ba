/- Several texts of the proof, joined. -/
import Derived.Test.YtnaehhpikhlppaaGreatDoorE45
import Derived.Test.YtnaehhpikhlppaaGreatDoorE34
import Derived.Test.YtnaehhpikhlppaaGreatDoorE44
import Derived.Test.YtnaehhpikhlppaaGreatDoorE20
set_option maxHeartbeats 4000000
set_option maxRecDepth 100000
set_option linter.unusedVariables false
set_option linter.unusedSimpArgs false
namespace Go.Proofs.YtnaehhpikhlppaaGreatDoor
open Go.RowKit LexS ParS BigFrame
theorem lexT_num {t:Tk} (h:LexT t) (hk:t.kind=2) : -9223372036854775808≤t.n∧t.n≤9223372036854775807:=by
 obtain ⟨h1,c,r,h2,_⟩:=h
 rw [h2] at h1
 unfold oneS at h1
 dsimp only at h1
 rw [hk] at h1
 have hx:∀ {k:Nat} {s:Bytes} {n:Int} {m l:Nat},((⟨k,s,n,0⟩,l):Tok×Nat)=(⟨2,t.s,t.n,0⟩,m)→k=2∧n=t.n∧l=m:=by
  intro k s n m l e
  injection e with e1 e2
  injection e1 with e3 e4 e5 e6
  exact ⟨e3,e5,e2⟩
 split at h1
 ·split at h1
  ·have:=(hx h1).1
   omega
  ·have:=(hx h1).2.2
   simp at this
 ·split at h1
  ·split at h1
   ·have:=(hx h1).1
    omega
   ·have:=(hx h1).2.2
    simp at this
  ·split at h1
   ·split at h1
    ·rename_i v n hn
     unfold numberS at hn
     split at hn
     ·rename_i v' ha
      split at hn
      ·simp only [Option.some.injEq,Prod.mk.injEq] at hn
       obtain ⟨rfl,rfl⟩:=hn
       rw [← (hx h1).2.1]
       exact Lib.atoiAll_bounds ha
      ·cases hn
     ·cases hn
    ·have:=(hx h1).2.2
     simp at this
   ·split at h1
    ·have:=(hx h1).2.2
     simp at this
    ·have:=(hx h1).1
     omega
def gapB (T:List Tk) (i:Nat) (t:Tk):Bytes:=match i with
 | 0=>[]
 | k+1=>match T[k]? with
   | some p=>gapT p t
   | none=>[]
theorem spell_next {T:List Tk} {i:Nat} {t:Tk} (ht:T[i]?=some t):spell (T.take (i+1))=spell (T.take i)++(gapB T i t++oneT t):=by
 rw [List.take_add_one,ht]
 show spell (T.take i++[t])=_
 cases i with
 | zero =>
   show oneT t++[]=[]++([]++oneT t)
   simp
 | succ k =>
   obtain ⟨q,hq⟩:∃ q,T[k]?=some q:=⟨T[k]'(by have:=(List.getElem?_eq_some_iff.1 ht).1;omega),List.getElem?_eq_getElem _⟩
   have e:gapB T (k+1) t=gapT q t:=by
    show (match T[k]? with | some p=>gapT p t | none=>[])=_
    rw [hq]
   rw [e,List.take_add_one,hq]
   show spell (T.take k++[q]++[t])=spell (T.take k++[q])++_
   cases T.take k with
   | nil =>
     show oneT q++(gapT q t++oneT t++[])=oneT q++[]++_
     simp
   | cons p l =>
     show oneT p++spellR p (l++[q]++[t])=oneT p++spellR p (l++[q])++_
     rw [spellR_app (l++[q]) p t [],lastK_app]
     show oneT p++(spellR p (l++[q])++(gapT q t++(oneT t++[])))=_
     simp
theorem bytes_of (s:Bytes) (W:World):∃ W2 c,(convert 9 107 (.string (BA s))).run Tryz.prog W=.ok (.slice (some ⟨W.heap.size,0,none⟩) s.length c) W2∧Below W.heap.size W W2∧∀ j u,(Lib.byteCells s)[j]?=some u→W2.cell? ((⟨W.heap.size,0,none⟩:Addr).add j)=some u:=by
 have h:=run_bytes_of_string (P:=Tryz.prog) W 9 107 5 (BA s) (by kernel_rfl) (by kernel_rfl) (by kernel_rfl)
 rw [text_size] at h
 refine ⟨_,_,h,(Below.refl _ _).drew.alloc (Nat.le_refl _) _,fun j u hu=>?_⟩
 have hj:j<s.length:=by
  have:=(List.getElem?_eq_some_iff.1 hu).1
  rwa [bcells_len] at this
 rw [Addr.add_lit]
 refine (cell_of_row _ W.heap.size (0+j) (bytesRow (BA s) (grownCap W s.length 0 5)) 5 _ (heap_alloc_new W.drew _)).trans ?_
 rw [Nat.zero_add,bytesRow_at _ _ _ (by simpa using hj),← hu]
 simp [Lib.byteCells,hj]
section
variable {T:List Tk}
def SpR (T:List Tk) (w:World) (i:Nat) (v:Value) (wr:World):Prop:=i≤T.length∧v≠.slice none 0 0∧wr.ownsRow w.heap.size 5 1 v (spell (T.take i)).length (Lib.byteCells (spell (T.take i)))∧Below w.heap.size w wr
theorem close_cases (t:Tk):(((t.kind:Int) == 4)=false∧closes t=false)∨(((t.kind:Int) == 4)=true∧((t.s == [44])=true)∧closes t=true)∨(((t.kind:Int) == 4)=true∧((t.s == [44])=false)∧((t.s == [41])=true)∧closes t=true)∨(((t.kind:Int) == 4)=true∧((t.s == [44])=false)∧((t.s == [41])=false)∧closes t=false):=by
 unfold closes
 by_cases h:t.kind=4
 ·have e:((t.kind:Int) == 4)=true:=by rw [h];rfl
  rw [e,decide_eq_true h,Bool.true_and]
  by_cases h1:t.s=kw_comma
  ·rw [h1]
   exact .inr (.inl ⟨rfl,by decide +kernel,by decide +kernel⟩)
  ·have b1:(t.s == [44])=false:=by
    rw [beq_eq_false_iff_ne]
    intro e
    exact h1 e
   by_cases h2:t.s=kw_shut
   ·rw [h2]
    exact .inr (.inr (.inl ⟨rfl,by decide +kernel,by decide +kernel,by decide +kernel⟩))
   ·have b2:(t.s == [41])=false:=by
     rw [beq_eq_false_iff_ne]
     intro e
     exact h2 e
    exact .inr (.inr (.inr ⟨rfl,b1,b2,by rw [decide_eq_false h1,decide_eq_false h2];rfl⟩))
 ·exact .inl ⟨by rw [beq_eq_false_iff_ne];omega,by rw [decide_eq_false h];rfl⟩
theorem open_cases (t:Tk):(((t.kind:Int) == 4)=false∧opens t=false)∨(((t.kind:Int) == 4)=true∧((t.s == [40])=true)∧opens t=true)∨(((t.kind:Int) == 4)=true∧((t.s == [40])=false)∧opens t=false):=by
 unfold opens
 by_cases h:t.kind=4
 ·have e:((t.kind:Int) == 4)=true:=by rw [h];rfl
  rw [e,decide_eq_true h,Bool.true_and]
  by_cases h1:t.s=kw_open
  ·rw [h1]
   exact .inr (.inl ⟨rfl,by decide +kernel,by decide +kernel⟩)
  ·have b1:(t.s == [40])=false:=by
    rw [beq_eq_false_iff_ne]
    intro e
    exact h1 e
   exact .inr (.inr ⟨rfl,b1,by rw [decide_eq_false h1]⟩)
 ·exact .inl ⟨by rw [beq_eq_false_iff_ne];omega,by rw [decide_eq_false h];rfl⟩
theorem gap_cases (i:Nat) (t:Tk) (hi:i<T.length):∃ ob:Bool,(i=0∧ob=false∧gapB T i t=[])∨∃ k p,i=k+1∧T[k]?=some p∧ob=opens p∧gapB T i t=if (ob || closes t)=true then [] else [32]:=by
 cases i with
 | zero=>exact ⟨false,.inl ⟨rfl,rfl,rfl⟩⟩
 | succ k =>
   have hq:T[k]?=some (T[k]'(by omega)):=List.getElem?_eq_getElem _
   refine ⟨_,.inr ⟨k,_,rfl,hq,rfl,?_⟩⟩
   show (match T[k]? with | some p=>gapT p t | none=>[])=_
   rw [hq]
   rfl
theorem tokbox {W wr w3:World} {k s n a:Value} (h:W.alloc (.cells #[k,s,n,a] 65)=w3):Below W.heap.size W w3∧Blk w3 W.heap.size 65 #[k,s,n,a]:=by
 subst h
 exact ⟨(Below.refl _ _).alloc (Nat.le_refl _) _,Blk.new W 65 _⟩
theorem spell_r {lv:Value} {b:Nat} (h:∀ t∈T,LexT t) (hn:T.length≤1024) (w:World) (hr:w.ownsRow b 65 4 lv T.length (toksL (T.map un))) :
 Calls Tryz.prog 27 #[lv] w fun e w'=>e=.returned (shortV (spell T))∧Below w.heap.size w w':=by
 obtain ⟨p,c,rfl,hmx,htk⟩:=toks_at hr
 have HTK:=Lib.hid htk
 have HL:=Lib.hid h
 have H0:=Lib.hid (show SpR T w 0 (.slice (some ⟨w.heap.size,0,none⟩) 0 0) (w.alloc (.cells #[] 5)) from ⟨Nat.zero_le _,(by intro h;cases h),empty_bytes w w (Nat.le_refl _),(Below.refl _ _).alloc (Nat.le_refl _) _⟩)
 obtain ⟨i0,hi,hz0,hz1,hz2⟩:=info_parts byte_info
 clear h htk hr hmx
 go_enter Tryz.func27,Tryz.ntmps27
 go_wp2_with fail
 go_loopg [4,5] (T.length+1) (fun gk v c5 wr => ∃ i:Nat,T.length<i+gk∧c5=.int .i64 (i:Int)∧SpR T w i v wr)
 case atStart=>exact ⟨0,by omega,rfl,H0.out⟩
 case round =>
  obtain ⟨i,hgk,rfl,hiT,hvn,hown,hb⟩:=hrel
  have hlen:(spell (T.take i)).length≤131*T.length:=Nat.le_trans (spell_len fun x hx=>HL.out x (List.mem_of_mem_take hx)) (Nat.mul_le_mul_left _ (by rw [List.length_take];omega))
  have HB:=Lib.hid hb
  have HV:=Lib.hid hvn
  by_cases hlt:i<T.length
  ·obtain ⟨t,ht⟩:∃ t,T[i]?=some t:=⟨T[i],List.getElem?_eq_getElem hlt⟩
   have hlx:=HL.out t (List.mem_of_getElem? ht)
   have hsm:=lexT_small hlx
   have HNX:=Lib.hid (spell_next ht)
   obtain ⟨g,rfl,u0,u1,u2,u3⟩:=HTK.out wr hb i t ht
   obtain ⟨acc,hacc⟩:∃ acc,acc=spell (T.take i):=⟨_,rfl⟩
   rw [← hacc] at hown hlen HNX
   have HO:=Lib.hid hown
   have HLX:=Lib.hid hlx
   have n1:(i:Int)<(T.length:Int):=by omega
   have n2:(0:Int)≤(i:Int):=by omega
   have n3:decide ((i:Int)<(T.length:Int))=true:=decide_eq_true n1
   have w1_:IntKind.i64.wrap ((i:Int)+1)=(i:Int)+1:=IntWalk.i64_in _ (by omega)
   clear hacc hown hlx ht hb hvn
   go_upto_region 6 with fail
   generalize hw3:World.alloc _ _=w3
   obtain ⟨hb3,hx3⟩:=tokbox (wr:=wr) hw3
   have HB3:=Lib.hid (chain HB.out hb3)
   have HO3:=Lib.hid (own_kept HO.out hb3)
   have HX3:=Lib.hid hx3
   have c0:w3.cell? ⟨wr.heap.size,0,none⟩=some (.int .i64 (t.kind:Int)):=hx3.cell 0
   have c1:w3.cell? ⟨wr.heap.size,1,none⟩=some (.string (BA t.s)):=hx3.cell 1
   have c2:w3.cell? ⟨wr.heap.size,2,none⟩=some (.int .i64 t.n):=hx3.cell 2
   clear hw3 hb3 hx3 u0 u1 u2 u3
   obtain ⟨o2,ho2⟩:∃ o2,o2=if t.kind=2 then Lib.itoa t.n else t.s:=⟨_,rfl⟩
   obtain ⟨o3,ho3⟩:∃ o3,o3=oneT t:=⟨_,rfl⟩
   rw [← ho3] at hsm HNX
   have HO2:=Lib.hid ho2
   have HO3':=Lib.hid ho3
   clear ho2 ho3
   go_upto_if 25 with fail
   go_cut [7] (fun s7 wx=>s7=.string (BA o2)∧Below w3.heap.size w3 wx)
   case first =>
    by_cases hk:t.kind=2
    ·have hnb:=lexT_num HLX.out hk
     have HD:=Lib.hid (digits_any t.n hnb.1 hnb.2 w3)
     have k2:((t.kind:Int) == 2)=true:=by rw [hk];rfl
     have HE:=Lib.hid (show o2=Lib.itoa t.n from HO2.out.trans (if_pos hk))
     clear hk hnb
     go_wp2_with fail
     refine HD.out.mono ?_
     rintro e w4 ⟨rfl,hb4⟩
     have HB4:=Lib.hid hb4
     clear hb4
     go_wp2_with fail
     go_meet
     exact ⟨by rw [HE.out],HB4.out⟩
    ·have k2:((t.kind:Int) == 2)=false:=by rw [beq_eq_false_iff_ne];omega
     have HE:=Lib.hid (show o2=t.s from HO2.out.trans (if_neg hk))
     clear hk
     go_wp2_with fail
     go_meet
     exact ⟨by rw [HE.out],Below.refl _ _⟩
   case rest =>
    obtain ⟨rfl,hb4⟩:=hcut
    obtain ⟨w4,rfl⟩:∃ w4,w4=wc:=⟨_,rfl⟩
    have HB4:=Lib.hid (chain HB3.out hb4)
    have HO4:=Lib.hid (own_kept HO3.out hb4)
    have HX4:=Lib.hid (HX3.out.kept hb4)
    have d0:w4.cell? ⟨wr.heap.size,0,none⟩=some (.int .i64 (t.kind:Int)):=HX4.out.cell 0
    have d1:w4.cell? ⟨wr.heap.size,1,none⟩=some (.string (BA t.s)):=HX4.out.cell 1
    clear hb4 c0 c1 c2
    go_upto_if 31 with fail
    go_cut [7] (fun s7 wx=>s7=.string (BA o3)∧Below w4.heap.size w4 wx)
    case first =>
     by_cases hk:t.kind=3
     ·have HQ:=Lib.hid (rquote_any (BA t.s) (by have:=lex_text_len HLX.out hk;rw [text_size];omega) w4)
      have k3:((t.kind:Int) == 3)=true:=by rw [hk];rfl
      have e0:o3=quoteS t.s:=by rw [HO3'.out];unfold oneT;rw [if_neg (by omega),if_pos hk]
      have HE:=Lib.hid e0
      clear hk e0
      go_wp2_with fail
      refine HQ.out.mono ?_
      rintro e w5 ⟨rfl,hb5⟩
      have HB5:=Lib.hid hb5
      clear hb5
      go_wp2_with fail
      go_meet
      exact ⟨by rw [HE.out],HB5.out⟩
     ·have k3:((t.kind:Int) == 3)=false:=by rw [beq_eq_false_iff_ne];omega
      have e0:o3=o2:=by rw [HO3'.out,HO2.out];unfold oneT;rw [if_neg hk]
      have HE:=Lib.hid e0
      clear hk e0
      go_wp2_with fail
      go_meet
      exact ⟨by rw [HE.out],Below.refl _ _⟩
    case rest =>
     obtain ⟨rfl,hb5⟩:=hcut
     obtain ⟨w5,rfl⟩:∃ w5,w5=wc:=⟨_,rfl⟩
     have HB5:=Lib.hid (chain HB4.out hb5)
     have HO5:=Lib.hid (own_kept HO4.out hb5)
     have HX5:=Lib.hid (HX4.out.kept hb5)
     have HTK5:=Lib.hid (fun i t ht=>HTK.out w5 HB5.out i t ht)
     have d0:w5.cell? ⟨wr.heap.size,0,none⟩=some (.int .i64 (t.kind:Int)):=HX5.out.cell 0
     have d1:w5.cell? ⟨wr.heap.size,1,none⟩=some (.string (BA t.s)):=HX5.out.cell 1
     clear hb5
     obtain ⟨ob,hgap⟩:=gap_cases (T:=T) i t (by omega)
     have HG:=Lib.hid hgap
     obtain ⟨gp,hgp⟩:∃ gp,gp=gapB T i t:=⟨_,rfl⟩
     rw [← hgp] at HNX HG
     clear hgap hgp
     go_upto_region 11 with fail
     go_cut [8] (fun s8 wx=>s8=.bool (closes t)∧wx=w5)
     case first =>
      rcases close_cases t with ⟨k4,hc⟩ | ⟨k4,s1,hc⟩ | ⟨k4,s1,s2,hc⟩ | ⟨k4,s1,s2,hc⟩
      all_goals
       have HC:=Lib.hid hc
       clear hc
       go_wp2_with fail
       go_meet
       exact ⟨by rw [HC.out],rfl⟩
     case rest =>
      obtain ⟨rfl,h9⟩:=hcut
      obtain rfl:=h9.symm
      go_upto_region 12 with fail
      go_cut [9] (fun s9 wx=>s9=.bool ob∧wx=w5)
      case first =>
       rcases HG.out with ⟨h0,h1,h2⟩ | ⟨k,p,h0,h1,h2,h3⟩
       ·have HOB:=Lib.hid h1
        have m1:¬ (0:Int)<(i:Int):=by omega
        have m2:decide ((0:Int)<(i:Int))=false:=decide_eq_false m1
        clear h0 h1 h2
        go_wp2_with fail
        go_meet
        exact ⟨by rw [HOB.out],rfl⟩
       ·have HOB:=Lib.hid h2
        have m1:(0:Int)<(i:Int):=by omega
        have m2:decide ((0:Int)<(i:Int))=true:=decide_eq_true m1
        have m3:IntKind.i64.wrap ((i:Int)-1)=(k:Int):=by rw [IntWalk.i64_in _ (by omega)];omega
        have m4:(0:Int)≤(k:Int):=by omega
        have m5:(k:Int)<(T.length:Int):=by omega
        obtain ⟨g2,he,v0,v1,_,_⟩:=HTK5.out k p h1
        injection he with he
        injection he with he
        subst he
        clear h0 h1 h2 h3
        rcases open_cases p with ⟨k4,hc⟩ | ⟨k4,s1,hc⟩ | ⟨k4,s1,hc⟩
        all_goals
         have HC:=Lib.hid hc
         clear hc
         go_wp2_with fail
         go_meet
         exact ⟨by rw [HOB.out,HC.out],rfl⟩
      case rest =>
       obtain ⟨rfl,h9⟩:=hcut
       obtain rfl:=h9.symm
       clear d0 d1
       obtain ⟨gb,hgb⟩:∃ gb:Bool,gb=(decide (0<i) && (!closes t && !ob)):=⟨_,rfl⟩
       have HGB:=Lib.hid (show gp=if gb=true then [32] else [] by
        rcases HG.out with ⟨h0,h1,h2⟩ | ⟨k,p,h0,h1,h2,h3⟩
        ·rw [hgb,h2,h0]
         rfl
        ·rw [hgb,h3,decide_eq_true (show 0<i by omega)]
         cases ob<;>cases closes t<;>rfl)
       have HG2:=Lib.hid hgb
       obtain ⟨cb,hcb⟩:∃ cb,cb=closes t:=⟨_,rfl⟩
       rw [← hcb] at HG2 ⊢
       clear hcb hgb HG
       go_upto_region 13 with fail
       go_cut [77] (fun s77 wx=>s77=.bool gb∧wx=w5)
       case first =>
        by_cases h0:0<i
        ·have m1:(0:Int)<(i:Int):=by omega
         have m2:decide ((0:Int)<(i:Int))=true:=decide_eq_true m1
         have HG3:=Lib.hid (show gb=(!cb && !ob) from by rw [HG2.out,decide_eq_true h0];rfl)
         cases cb<;>cases ob
         all_goals
          go_wp2_with fail
          go_meet
          exact ⟨by rw [HG3.out];rfl,rfl⟩
        ·have m1:¬ (0:Int)<(i:Int):=by omega
         have m2:decide ((0:Int)<(i:Int))=false:=decide_eq_false m1
         have HG3:=Lib.hid (show gb=false from by rw [HG2.out,decide_eq_false h0];rfl)
         clear h0
         go_wp2_with fail
         go_meet
         exact ⟨by rw [HG3.out],rfl⟩
       case rest =>
       obtain ⟨rfl,h9⟩:=hcut
       obtain rfl:=h9.symm
       go_upto_if 77 with fail
       go_cut [4] (fun s4 wx=>s4≠.slice none 0 0∧wx.ownsRow w.heap.size 5 1 s4 (acc++gp).length (Lib.byteCells (acc++gp))∧Below w.heap.size w wx)
       case first =>
        cases gb
        ·have HA:=Lib.hid (show gp=[] from HGB.out)
         go_wp2_with fail
         go_meet
         exact ⟨HV.out,by rw [HA.out,List.append_nil];exact HO5.out,HB5.out⟩
        ·have HG1:=Lib.hid (show gp=[32] from HGB.out)
         go_wp2_with (at_builtin;refine wpList_append_own _ rfl _ _ _ rfl w.heap.size 5 i0 _ 1 1 (by kernel_rfl) hi hz0 hz1 hz2 rfl (by decide) _ acc.length (Lib.byteCells acc) rfl (HO5.out.alloc _) ⟨w5.heap.size,0,none⟩ 1 1 [.int .u8 32] rfl rfl (one_cell w5 _) (by simp [Value.oneCell']) (by simp only [maxLen];omega) (by omega) (HB5.out.alloc HB5.out.size _).size ?_)
         intro v' w6 ho hgr hnil
         have HF:=Lib.hid ((HB5.out.alloc HB5.out.size _).grown hgr (HB5.out.alloc HB5.out.size _).size (fun k hk=>((HO5.out.alloc (.cells #[.int .u8 32] 5)).lt k hk).1))
         have HN:=Lib.hid (show v'≠.slice none 0 0 from fun e=>hnil e)
         have HO6:=Lib.hid (show w6.ownsRow w.heap.size 5 1 v' (acc++gp).length (Lib.byteCells (acc++gp)) by rw [HG1.out,List.length_append,← byte_cat];exact ho)
         clear ho hgr hnil
         go_wp2_with fail
         go_meet
         exact ⟨HN.out,HO6.out,HF.out⟩
       case rest =>
        obtain ⟨hv6,ho6,hb6⟩:=hcut
        obtain ⟨w6,rfl⟩:∃ w6,w6=wc:=⟨_,rfl⟩
        have hgl:gp.length≤1:=by rw [HGB.out];split<;>simp
        have hal:(acc++gp).length≤140000:=by rw [List.length_append];omega
        obtain ⟨ac2,ha2⟩:∃ ac2,ac2=acc++gp:=⟨_,rfl⟩
        have HNX2:=Lib.hid (show spell (T.take (i+1))=ac2++o3 by rw [HNX.out,ha2,List.append_assoc])
        rw [← ha2] at hal ho6
        obtain ⟨w7,c7,hcv,hb7,hc7⟩:=bytes_of o3 w6
        have HO7:=Lib.hid (own_kept ho6 hb7)
        have HB7:=Lib.hid (chain hb6 hb7)
        have HC7:=Lib.hid hc7
        have HV6:=Lib.hid hv6
        have HCB:=Lib.hid (show (Lib.byteCells o3).length=o3.length*1 by rw [bcells_len];omega)
        have HCC:=Lib.hid (show ∀ u∈Lib.byteCells o3,u.oneCell'=true by simp [Lib.byteCells,Value.oneCell'])
        have HW6:=Lib.hid (show w6.heap.size≤w6.heap.size from Nat.le_refl _)
        clear hv6 ho6 hb6 hb7 hc7 ha2 hgl HO5 HB5 HX5 HTK5 HX4 HX3
        go_wp2_with (at_builtin;refine wpList_append_own _ rfl _ _ _ rfl w.heap.size 5 i0 _ 1 1 (by kernel_rfl) hi hz0 hz1 hz2 rfl (by decide) _ ac2.length (Lib.byteCells ac2) rfl HO7.out ⟨w6.heap.size,0,none⟩ o3.length c7 (Lib.byteCells o3) rfl HCB.out HC7.out HCC.out (by simp only [maxLen];omega) (by omega) HB7.out.size ?_)
        intro v' w8 ho hgr hnil
        have HF:=Lib.hid (HB7.out.grown hgr HB7.out.size (fun k hk=>(HO7.out.lt k hk).1))
        have HN:=Lib.hid (show v'≠.slice none 0 0 from fun e=>HV6.out (hnil.1 e).1)
        have HO8:=Lib.hid (show w8.ownsRow w.heap.size 5 1 v' (spell (T.take (i+1))).length (Lib.byteCells (spell (T.take (i+1)))) by rw [HNX2.out,List.length_append,show Lib.byteCells (ac2++o3)=Lib.byteCells ac2++Lib.byteCells o3 by simp [Lib.byteCells]];exact ho)
        clear ho hgr hnil
        go_wp2_with fail
        go_roundg (T.length-i)
        case measure=>omega
        case rel=>exact ⟨i+1,by omega,rfl,by omega,HN.out,HO8.out,HF.out⟩
  ·have hi':i=T.length:=by omega
   subst hi'
   rw [List.take_length] at hown hlen
   have n1:¬ (T.length:Int)<(T.length:Int):=by omega
   have n3:decide ((T.length:Int)<(T.length:Int))=false:=decide_eq_false n1
   obtain ⟨acc,hacc⟩:∃ acc,acc=spell T:=⟨_,rfl⟩
   rw [← hacc] at hown hlen
   have HACC:=Lib.hid hacc
   have hcv:=bytes_text hown hvn
   have HO:=Lib.hid hown
   clear hown hacc hvn hb
   by_cases hl:2048<acc.length
   ·have l1:(2048:Int)<(acc.length:Int):=by omega
    have l2:decide ((2048:Int)<(acc.length:Int))=true:=decide_eq_true l1
    have HS:=Lib.hid (show shortV acc=.tuple #[.string ⟨#[]⟩,.int .i64 2] from if_pos hl)
    obtain ⟨o,cp,rfl⟩:=row_slice HO.out
    go_wp2_with fail
    exact bodyPost_ret (v:=.tuple #[.string ⟨#[]⟩,.int .i64 2]) (by simp [results,Tryz.results27,go_sem]) rfl ⟨by rw [← HACC.out,HS.out],HB.out⟩
   ·have l1:¬ (2048:Int)<(acc.length:Int):=by omega
    have l2:decide ((2048:Int)<(acc.length:Int))=false:=decide_eq_false l1
    have HS:=Lib.hid (show shortV acc=.tuple #[.string (BA acc),.int .i64 0] from if_neg hl)
    obtain ⟨o,cp,rfl⟩:=row_slice HO.out
    go_wp2_with fail
    exact bodyPost_ret (v:=.tuple #[.string (BA acc),.int .i64 0]) (by simp [results,Tryz.results27,go_sem]) rfl ⟨by rw [← HACC.out,HS.out],HB.out⟩
end
end Go.Proofs.YtnaehhpikhlppaaGreatDoor

namespace Go.Proofs.YtnaehhpikhlppaaGreatDoor
open Go.RowKit LexS ParS BigFrame
theorem lexT_all {l:List Tk} (h:(l.all fun t=>decide (oneS (oneT t)=(⟨t.kind,t.s,t.n,0⟩,(oneT t).length)) && match oneT t with | []=>false | c::_ => !blankB c)=true):∀ t∈l,LexT t:=by
 intro t ht
 have:=List.all_eq_true.1 h t ht
 rw [Bool.and_eq_true,decide_eq_true_eq] at this
 refine ⟨this.1,?_⟩
 have h2:=this.2
 split at h2
 ·cases h2
 ·rename_i c r e
  exact ⟨c,r,e,by simpa using h2⟩
theorem fine_known {s:Bytes} {q:Qr} (h:queryS s=(q.flat 0,0,0)) (ok:q.Ok) (hl:∀ t∈q.tok,LexT t) (hf:q.tok.length≤1024) (hb:parseAll (pQuery 16) q.tok=(q.flat 0,0,0)):Fine q (q.flat 0):=by
 obtain ⟨q',h1,_⟩:=fine_of h
 exact ⟨⟨rfl,⟨ok,hl,hf⟩,h1.tree,h1.fits,h1.few,h1.last⟩,hb⟩
theorem ex13_1:∃ (ns:List Nd) (q:Qr),queryS [102,101,116,99,104,32,108,111,97,100,124,119,104,101,114,101,40,104,111,115,116,61,34,97,34,111,114,32,110,62,53,41,97,110,100,32,117,112,61,116,114,117,101,124,116,111,112,32,51,32,98,121,32,110]=(ns,0,0)∧Fine q ns∧q.textB=[102,101,116,99,104,32,108,111,97,100,32,124,32,119,104,101,114,101,32,40,104,111,115,116,32,61,32,34,97,34,32,111,114,32,110,32,62,32,53,41,32,97,110,100,32,117,112,32,61,32,116,114,117,101,32,124,32,116,111,112,32,51,32,98,121,32,110]:=by
 have h:queryS [102,101,116,99,104,32,108,111,97,100,124,119,104,101,114,101,40,104,111,115,116,61,34,97,34,111,114,32,110,62,53,41,97,110,100,32,117,112,61,116,114,117,101,124,116,111,112,32,51,32,98,121,32,110]=(Qr.flat 0 (.top (.where_ (.fetch [108,111,97,100] 0 1099511627775) (.and (.or (.cmp [104,111,115,116] 1 ⟨2,0,[97]⟩) (.cmp [110] 5 ⟨1,5,[]⟩)) (.cmp [117,112] 1 ⟨3,1,[]⟩))) 3 [110]:Qr),0,0):=by decide +kernel
 exact ⟨_,(.top (.where_ (.fetch [108,111,97,100] 0 1099511627775) (.and (.or (.cmp [104,111,115,116] 1 ⟨2,0,[97]⟩) (.cmp [110] 5 ⟨1,5,[]⟩)) (.cmp [117,112] 1 ⟨3,1,[]⟩))) 3 [110]:Qr),h,fine_known h (⟨trivial,⟨⟨⟨by decide,by decide⟩,by decide,by decide,.inr (.inl ⟨rfl,rfl⟩)⟩,⟨by decide,by decide⟩,by decide,by decide,.inl ⟨rfl,rfl⟩⟩,⟨by decide,by decide⟩,by decide,by decide,.inr (.inr ⟨rfl,rfl,.inr rfl⟩)⟩) (lexT_all (by decide +kernel)) (by decide +kernel) (by decide +kernel),by decide +kernel⟩
theorem ex13_2:∃ (ns:List Nd) (q:Qr),queryS [102,101,116,99,104,32,108,111,97,100,32,124,32,103,114,111,117,112,58,99,111,117,110,116,44,115,117,109,32,110]=(ns,0,0)∧Fine q ns∧q.textB=[102,101,116,99,104,32,108,111,97,100,32,124,32,103,114,111,117,112,32,58,32,99,111,117,110,116,44,32,115,117,109,32,110]:=by
 have h:queryS [102,101,116,99,104,32,108,111,97,100,32,124,32,103,114,111,117,112,58,99,111,117,110,116,44,115,117,109,32,110]=(Qr.flat 0 (.group (.fetch [108,111,97,100] 0 1099511627775) [] [(1,[]),(2,[110])]:Qr),0,0):=by decide +kernel
 exact ⟨_,(.group (.fetch [108,111,97,100] 0 1099511627775) [] [(1,[]),(2,[110])]:Qr),h,fine_known h (⟨trivial,fun s h=>by simp at h,by decide,fun a ha=>by
  simp only [List.mem_cons,List.not_mem_nil,or_false] at ha
  rcases ha with rfl | rfl
  ·exact .inl rfl
  ·exact .inr ⟨by decide,by decide⟩⟩) (lexT_all (by decide +kernel)) (by decide +kernel) (by decide +kernel),by decide +kernel⟩
theorem text_none (w:World):Calls Tryz.prog 24 #[.agg #[.slice none 0 0]] w fun e w'=>e=.returned (.tuple #[.string ⟨#[]⟩,.bool false])∧Below w.heap.size w w':=by
 have hb:Below w.heap.size w (w.alloc (.cells #[.slice none 0 0] 25)):=(Below.refl _ _).alloc (Nat.le_refl _) _
 go_enter Tryz.func24,Tryz.ntmps24
 go_wp2_with fail
 exact bodyPost_ret (v:=.tuple #[.string ⟨#[]⟩,.bool false]) (by simp [results,Tryz.results24,go_sem]) rfl ⟨rfl,hb⟩
theorem check_none (w:World):Calls Tryz.prog 11 #[.agg #[.slice none 0 0]] w fun e w'=>e=.returned (.int .i64 120)∧Below w.heap.size w w':=by
 have hb:Below w.heap.size w (w.alloc (.cells #[.slice none 0 0] 25)):=(Below.refl _ _).alloc (Nat.le_refl _) _
 have ht:=text_none (w.alloc (.cells #[.slice none 0 0] 25))
 go_enter Tryz.func11,Tryz.ntmps11
 go_wp2_with fail
 refine ht.mono ?_
 rintro e w2 ⟨rfl,hb2⟩
 have HB:=Lib.hid (hb.trans (hb2.mono hb.size))
 clear hb hb2 ht
 go_wp2_with fail
 exact bodyPost_ret (results_tmp rfl _ _ _) rfl ⟨rfl,HB.out⟩
theorem print_none (w:World):Calls Tryz.prog 9 #[.agg #[.slice none 0 0]] w fun e w'=>e=.returned (.tuple #[.string ⟨#[]⟩,.int .i64 120])∧Below w.heap.size w w':=by
 have hb:Below w.heap.size w (w.alloc (.cells #[.slice none 0 0] 25)):=(Below.refl _ _).alloc (Nat.le_refl _) _
 have ht:=check_none (w.alloc (.cells #[.slice none 0 0] 25))
 go_enter Tryz.func9,Tryz.ntmps9
 go_wp2_with fail
 refine ht.mono ?_
 rintro e w2 ⟨rfl,hb2⟩
 have HB:=Lib.hid (hb.trans (hb2.mono hb.size))
 clear hb hb2 ht
 go_wp2_with fail
 exact bodyPost_ret (v:=.tuple #[.string ⟨#[]⟩,.int .i64 120]) (by simp [results,Tryz.results9,go_sem]) rfl ⟨rfl,HB.out⟩
theorem shown_13 (w:World) (hp:PW w):Calls Tryz.prog 7 #[] w fun e w'=>e=.returned (.bool true)∧Below w.heap.size w w':=by
 obtain ⟨n1,q1,e1,f1,t1⟩:=ex13_1
 obtain ⟨n2,q2,e2,f2,t2⟩:=ex13_2
 have HQ1:=Lib.hid (show ∀ w,Calls Tryz.prog 8 #[.string ⟨#[102,101,116,99,104,32,108,111,97,100,124,119,104,101,114,101,40,104,111,115,116,61,34,97,34,111,114,32,110,62,53,41,97,110,100,32,117,112,61,116,114,117,101,124,116,111,112,32,51,32,98,121,32,110]⟩] w (PostAll w (n1,0,0)) from fun w=>by
  have:=rquery_text ⟨#[102,101,116,99,104,32,108,111,97,100,124,119,104,101,114,101,40,104,111,115,116,61,34,97,34,111,114,32,110,62,53,41,97,110,100,32,117,112,61,116,114,117,101,124,116,111,112,32,51,32,98,121,32,110]⟩ (by decide) w
  rwa [show queryS (⟨#[102,101,116,99,104,32,108,111,97,100,124,119,104,101,114,101,40,104,111,115,116,61,34,97,34,111,114,32,110,62,53,41,97,110,100,32,117,112,61,116,114,117,101,124,116,111,112,32,51,32,98,121,32,110]⟩:ByteArray).data.toList=(n1,0,0) from e1] at this)
 have HQ2:=Lib.hid (show ∀ w,Calls Tryz.prog 8 #[.string ⟨#[102,101,116,99,104,32,108,111,97,100,32,124,32,103,114,111,117,112,58,99,111,117,110,116,44,115,117,109,32,110]⟩] w (PostAll w (n2,0,0)) from fun w=>by
  have:=rquery_text ⟨#[102,101,116,99,104,32,108,111,97,100,32,124,32,103,114,111,117,112,58,99,111,117,110,116,44,115,117,109,32,110]⟩ (by decide) w
  rwa [show queryS (⟨#[102,101,116,99,104,32,108,111,97,100,32,124,32,103,114,111,117,112,58,99,111,117,110,116,44,115,117,109,32,110]⟩:ByteArray).data.toList=(n2,0,0) from e2] at this)
 have HP1:=Lib.hid (show ∀ (W:World) (g cap:Nat),NR W (.slice (some ⟨g,0,none⟩) n1.length cap) n1→PW W→Calls Tryz.prog 9 #[.agg #[.slice (some ⟨g,0,none⟩) n1.length cap]] W fun e w'=>e=.returned (.tuple #[.string ⟨#[102,101,116,99,104,32,108,111,97,100,32,124,32,119,104,101,114,101,32,40,104,111,115,116,32,61,32,34,97,34,32,111,114,32,110,32,62,32,53,41,32,97,110,100,32,117,112,32,61,32,116,114,117,101,32,124,32,116,111,112,32,51,32,98,121,32,110]⟩,.int .i64 0])∧Below W.heap.size W w' from fun W g cap hn hw=>by
  have:=print_fine f1 W hn hw
  rwa [t1] at this)
 have HP2:=Lib.hid (show ∀ (W:World) (g cap:Nat),NR W (.slice (some ⟨g,0,none⟩) n2.length cap) n2→PW W→Calls Tryz.prog 9 #[.agg #[.slice (some ⟨g,0,none⟩) n2.length cap]] W fun e w'=>e=.returned (.tuple #[.string ⟨#[102,101,116,99,104,32,108,111,97,100,32,124,32,103,114,111,117,112,32,58,32,99,111,117,110,116,44,32,115,117,109,32,110]⟩,.int .i64 0])∧Below W.heap.size W w' from fun W g cap hn hw=>by
  have:=print_fine f2 W hn hw
  rwa [t2] at this)
 have N1:=Lib.hid f1.tree.ne
 have N2:=Lib.hid f2.tree.ne
 have HW:=Lib.hid hp
 clear e1 e2 f1 f2 t1 t2 hp
 go_enter Tryz.func7,Tryz.ntmps7
 go_wp2_with fail
 refine (HQ1.out _).mono ?_
 rintro e w1 ⟨nv,rfl,hn,hb⟩
 dsimp only at hn
 obtain ⟨p,c1,rfl,_,_,hne⟩:=hn.nr
 obtain ⟨g1,rfl,_⟩:=hne N1.out
 have H1:=Lib.hid hn.nr
 have B1:=Lib.hid hb
 clear hn hb hne
 go_upto_region 2 with fail
 generalize hx:World.alloc _ _=w2
 obtain ⟨hb2,hx2⟩:=qbox hx
 have H2:=Lib.hid (H1.out.stayP hb2)
 have B2:=Lib.hid (chain B1.out hb2)
 have X2:=Lib.hid hx2
 clear hx hb2 hx2 H1
 go_wp2_with fail
 refine (HQ2.out _).mono ?_
 rintro e w3 ⟨nv,rfl,hn,hb⟩
 dsimp only at hn
 obtain ⟨p,c2,rfl,_,_,hne⟩:=hn.nr
 obtain ⟨g2,rfl,_⟩:=hne N2.out
 have H3:=Lib.hid (H2.out.stayP hb)
 have P3:=Lib.hid hn.nr
 have B3:=Lib.hid (chain B2.out hb)
 have X3:=Lib.hid (X2.out.kept hb)
 clear hn hb hne H2 X2
 go_upto_region 3 with fail
 generalize hx:World.alloc _ _=w4
 obtain ⟨hb4,hx4⟩:=qbox hx
 have H4:=Lib.hid (H3.out.stayP hb4)
 have P4:=Lib.hid (P3.out.stayP hb4)
 have B4:=Lib.hid (chain B3.out hb4)
 have X4:=Lib.hid (X3.out.kept hb4)
 have Y4:=Lib.hid hx4
 have a0:w4.cell? ⟨w1.heap.size,0,none⟩=some (.slice (some ⟨g1,0,none⟩) n1.length c1):=X4.out.cell 0
 clear hx hb4 hx4 H3 P3 X3
 go_wp2_with fail
 refine (HP1.out _ _ _ H4.out (HW.out.kept B4.out)).mono ?_
 rintro e w5 ⟨rfl,hb⟩
 have B5:=Lib.hid (chain B4.out hb)
 have P5:=Lib.hid (P4.out.stayP hb)
 have b0:w5.cell? ⟨w3.heap.size,0,none⟩=some (.slice (some ⟨g2,0,none⟩) n2.length c2):=(Y4.out.kept hb).cell 0
 clear hb a0
 go_wp2_with fail
 refine (HP2.out _ _ _ P5.out (HW.out.kept B5.out)).mono ?_
 rintro e w6 ⟨rfl,hb⟩
 have B6:=Lib.hid (chain B5.out hb)
 have hno:=print_none w6
 clear hb b0
 go_wp2_with fail
 refine hno.mono ?_
 rintro e w7 ⟨rfl,hb⟩
 have B7:=Lib.hid (chain B6.out hb)
 clear hb hno
 go_wp2_with fail
 exact bodyPost_ret (results_tmp rfl _ _ _) rfl ⟨rfl,B7.out⟩
end Go.Proofs.YtnaehhpikhlppaaGreatDoor
