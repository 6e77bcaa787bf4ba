/- Several texts of the proof, joined. -/
import Derived.Test.YtnaehhpikhlppaaGreatDoorE13
import Derived.Test.YtnaehhpikhlppaaGreatDoorE7
import Derived.Lib.ReplaceLaws
import Derived.Test.YtnaehhpikhlppaaGreatDoorE9
set_option maxHeartbeats 4000000
set_option maxRecDepth 100000
set_option linter.unusedVariables false
set_option linter.unusedSimpArgs false
namespace Go.Proofs.YtnaehhpikhlppaaGreatDoor
open Go.RowKit LexS ParS BigFrame
theorem cat3 (a b c:Bytes):(⟨a.toArray⟩ ++ ⟨b.toArray⟩ ++ ⟨c.toArray⟩:ByteArray)=⟨(a++b++c).toArray⟩:=by rw [ByteArray.mk_append_mk,ByteArray.mk_append_mk]
theorem text_size (l:Bytes):(⟨l.toArray⟩:ByteArray).size=l.length:=by simp [ByteArray.size]
theorem text_list (l:Bytes):(⟨l.toArray⟩:ByteArray).data.toList=l:=by simp
theorem repl_any (c x:UInt8) (s:ByteArray) (hs:s.size≤4194304) (w:World) (hg:GW w) :
 Calls Tryz.prog 108 #[.string s,.string ⟨#[c]⟩,.string ⟨#[x,c]⟩] w fun e w'=>e=.returned (.string ⟨(Lib.replaceAll s.data.toList [c] [x,c]).toArray⟩)∧Below w.heap.size w w':=by
 obtain ⟨m,hm⟩:=hg.mx
 have h1:1≤(⟨#[c]⟩:ByteArray).size:=Nat.le_refl 1
 have hc:=Lib.countB_mul_le ⟨#[c]⟩ h1 s.size s (Nat.le_refl _)
 have e1:(⟨#[c]⟩:ByteArray).size=1:=rfl
 have e2:(⟨#[x,c]⟩:ByteArray).size=2:=rfl
 rw [e1] at hc
 exact Tryz.strings_ReplaceAll s ⟨#[c]⟩ ⟨#[x,c]⟩ m w (by omega) hm h1 (by rw [e2];omega)
theorem quote_any (s:ByteArray) (hs:s.size≤1048576) (w:World) (hg:GW w) :
 Calls Tryz.prog 58 #[.string s] w fun e w'=>e=.returned (.string ⟨(quoteS s.data.toList).toArray⟩)∧Below w.heap.size w w':=by
 have k1:=repl_any 92 92 s (by omega)
 have hr1:=replaceAll_one 92 [92,92] s.data.toList (by decide)
 have hl1:=repl_len 92 92 s.data.toList
 obtain ⟨l1,hl⟩:∃ l1,l1=Lib.replaceAll s.data.toList [92] [92,92]:=⟨_,rfl⟩
 rw [size_list,← hr1,← hl] at hl1
 obtain ⟨t,ht⟩:∃ t:ByteArray,t=⟨l1.toArray⟩:=⟨_,rfl⟩
 have htl:t.data.toList=l1:=by rw [ht]
 have hts:t.size=l1.length:=by rw [ht];exact text_size _
 rw [← hl,← ht] at k1
 have k2:=repl_any 34 92 t (by omega)
 rw [htl] at k2
 have hr2:=replaceAll_one 34 [92,34] l1 (by decide)
 have hl2:=repl_len 34 92 l1
 have hq:=quote_replaced s.data.toList
 rw [← hl] at hq
 obtain ⟨l2,hl'⟩:∃ l2,l2=Lib.replaceAll l1 [34] [92,34]:=⟨_,rfl⟩
 rw [← hr2,← hl'] at hl2
 rw [← hl'] at k2 hq
 obtain ⟨u,hu⟩:∃ u:ByteArray,u=⟨l2.toArray⟩:=⟨_,rfl⟩
 have hus:u.size=l2.length:=by rw [hu];exact text_size _
 have hcat:(⟨#[34]⟩:ByteArray)++u ++ ⟨#[34]⟩=⟨(quoteS s.data.toList).toArray⟩:=by
  rw [← hq,hu]
  exact cat3 [34] l2 [34]
 rw [← hu] at k2
 have z1:(u.size:Int)≤8388608:=by omega
 have z2:u.size≤8388608:=by omega
 have z3:(⟨#[34]⟩++u:ByteArray).size=1+u.size:=ByteArray.size_append
 have HG:=Lib.hid hg
 have HC:=Lib.hid hcat
 clear hu hus hl' hq hr2 hl2 htl hts ht hl hr1 hl1 hg hcat
 go_enter Tryz.func58,Tryz.ntmps58
 go_wp2_with fail
 refine (k1 _ HG.out).mono ?_
 rintro e w1 ⟨rfl,b1⟩
 have HG1:=Lib.hid (HG.out.kept b1)
 go_wp2_with fail
 refine (k2 _ HG1.out).mono ?_
 rintro e w2 ⟨rfl,b2⟩
 have HB:=Lib.hid (chain b1 b2)
 clear b1 b2 k1 k2
 go_wp2_with fail
 exact bodyPost_ret (results_tmp rfl _ _ _) rfl ⟨by rw [← HC.out];rfl,HB.out⟩
theorem box_cells {w w1:World} {v:Val} (b:Below (w.alloc (.cells (valA v) 37)).heap.size (w.alloc (.cells (valA v) 37)) w1) :
 w1.cell? ⟨w.heap.size,0,none⟩=some (.int .i64 (v.kind:Int))∧w1.cell? ⟨w.heap.size,1,none⟩=some (.int .i64 v.n)∧w1.cell? ⟨w.heap.size,2,none⟩=some (.string (BA v.s))∧Below w.heap.size w w1:=by
 have hb:=(Blk.new w 37 (valA v)).kept b
 exact ⟨hb.cell 0,hb.cell 1,hb.cell 2,chain ((Below.refl _ _).alloc (Nat.le_refl _) _) b⟩
theorem text_int (n:Int) (h0 : -9223372036854775808≤n) (h1:n≤9223372036854775807) (w:World) (hg:GW w) :
 Calls Tryz.prog 59 #[.agg (valA ⟨1,n,[]⟩)] w fun e w'=>e=.returned (.string (BA (valB ⟨1,n,[]⟩)))∧Below w.heap.size w w':=by
 have ki:=itoa_b n h0 h1
 have HG:=Lib.hid hg
 clear hg
 go_enter Tryz.func59,Tryz.ntmps59
 go_wp2_with fail
 refine (valid_int n _).mono ?_
 rintro e w1 ⟨rfl,b⟩
 obtain ⟨k0,k1,_,hb⟩:=box_cells b
 have HG1:=Lib.hid (HG.out.kept hb)
 have HB:=Lib.hid hb
 clear b hb
 dsimp only at k0 k1
 go_wp2_with fail
 refine (ki _ HG1.out).mono ?_
 rintro e w2 ⟨rfl,b2⟩
 have HB2:=Lib.hid (chain HB.out b2)
 clear b2
 go_wp2_with fail
 exact bodyPost_ret (results_tmp rfl _ _ _) rfl ⟨rfl,HB2.out⟩
theorem text_bool (n:Int) (hn:n=0∨n=1) (w:World) :
 Calls Tryz.prog 59 #[.agg (valA ⟨3,n,[]⟩)] w fun e w'=>e=.returned (.string (BA (valB ⟨3,n,[]⟩)))∧Below w.heap.size w w':=by
 go_enter Tryz.func59,Tryz.ntmps59
 go_wp2_with fail
 refine (valid_bool n hn _).mono ?_
 rintro e w1 ⟨rfl,b⟩
 obtain ⟨k0,k1,_,hb⟩:=box_cells b
 have HB:=Lib.hid hb
 clear b hb
 dsimp only at k0 k1
 rcases hn with rfl | rfl
 ·go_wp2_with fail
  refine (Tryz.strconv_FormatBool _ _).mono ?_
  rintro e w2 ⟨rfl,rfl⟩
  go_wp2_with fail
  exact bodyPost_ret (results_tmp rfl _ _ _) rfl ⟨rfl,HB.out⟩
 ·go_wp2_with fail
  refine (Tryz.strconv_FormatBool _ _).mono ?_
  rintro e w2 ⟨rfl,rfl⟩
  go_wp2_with fail
  exact bodyPost_ret (results_tmp rfl _ _ _) rfl ⟨rfl,HB.out⟩
theorem text_str (x:Bytes) (hx:x.length≤64) (w:World) (hg:GW w) :
 Calls Tryz.prog 59 #[.agg (valA ⟨2,0,x⟩)] w fun e w'=>e=.returned (.string (BA (valB ⟨2,0,x⟩)))∧Below w.heap.size w w':=by
 have e0:valB ⟨2,0,x⟩=quoteS x:=rfl
 rw [e0]
 have hv:=valid_str x hx
 obtain ⟨s,hs0⟩:∃ s:ByteArray,s=BA x:=⟨_,rfl⟩
 have hsl:s.data.toList=x:=by rw [hs0]
 have hs:s.size≤1048576:=by rw [← size_list,hsl];omega
 rw [← hsl]
 rw [← hsl] at hv
 have k1:=repl_any 92 92 s (by omega)
 have hr1:=replaceAll_one 92 [92,92] s.data.toList (by decide)
 have hl1:=repl_len 92 92 s.data.toList
 obtain ⟨l1,hl⟩:∃ l1,l1=Lib.replaceAll s.data.toList [92] [92,92]:=⟨_,rfl⟩
 rw [size_list,← hr1,← hl] at hl1
 obtain ⟨t,ht⟩:∃ t:ByteArray,t=⟨l1.toArray⟩:=⟨_,rfl⟩
 have htl:t.data.toList=l1:=by rw [ht]
 have hts:t.size=l1.length:=by rw [ht];exact text_size _
 rw [← hl,← ht] at k1
 have k2:=repl_any 34 92 t (by omega)
 rw [htl] at k2
 have hr2:=replaceAll_one 34 [92,34] l1 (by decide)
 have hl2:=repl_len 34 92 l1
 have hq:=quote_replaced s.data.toList
 rw [← hl] at hq
 obtain ⟨l2,hl'⟩:∃ l2,l2=Lib.replaceAll l1 [34] [92,34]:=⟨_,rfl⟩
 rw [← hr2,← hl'] at hl2
 rw [← hl'] at k2 hq
 obtain ⟨u,hu⟩:∃ u:ByteArray,u=⟨l2.toArray⟩:=⟨_,rfl⟩
 have hus:u.size=l2.length:=by rw [hu];exact text_size _
 have hcat:(⟨#[34]⟩:ByteArray)++u ++ ⟨#[34]⟩=⟨(quoteS s.data.toList).toArray⟩:=by
  rw [← hq,hu]
  exact cat3 [34] l2 [34]
 rw [← hu] at k2
 have z1:(u.size:Int)≤8388608:=by omega
 have z2:u.size≤8388608:=by omega
 have z3:(⟨#[34]⟩++u:ByteArray).size=1+u.size:=ByteArray.size_append
 have HG:=Lib.hid hg
 have HC:=Lib.hid hcat
 clear hu hus hl' hq hr2 hl2 htl hts ht hl hr1 hl1 hg hcat
 clear hs0 hsl
 go_enter Tryz.func59,Tryz.ntmps59
 go_wp2_with fail
 refine (hv _).mono ?_
 rintro e w0 ⟨rfl,b⟩
 obtain ⟨c0,_,c2,hb⟩:=box_cells b
 have HG0:=Lib.hid (HG.out.kept hb)
 have HB0:=Lib.hid hb
 clear b hb hv
 dsimp only at c0 c2
 rw [show BA s.data.toList=s from rfl] at c2
 go_wp2_with fail
 refine (k1 _ HG0.out).mono ?_
 rintro e w1 ⟨rfl,b1⟩
 have HG1:=Lib.hid (HG0.out.kept b1)
 go_wp2_with fail
 refine (k2 _ HG1.out).mono ?_
 rintro e w2 ⟨rfl,b2⟩
 have HB:=Lib.hid (chain HB0.out (chain b1 b2))
 clear b1 b2 k1 k2
 go_wp2_with fail
 exact bodyPost_ret (results_tmp rfl _ _ _) rfl ⟨by show Ending.returned (.string ((⟨#[34]⟩:ByteArray)++u ++ ⟨#[34]⟩))=_;rw [HC.out],HB.out⟩
theorem vtext_any {v:Val} (h:ValOk v) (h0 : -9223372036854775808≤v.n) (h1:v.n≤9223372036854775807) (hs:v.s.length≤64) (w:World) (hg:GW w) :
 Calls Tryz.prog 59 #[.agg (valA v)] w fun e w'=>e=.returned (.string (BA (valB v)))∧Below w.heap.size w w':=by
 obtain ⟨k,n,s⟩:=v
 unfold ValOk at h
 dsimp only at h h0 h1 hs
 rcases h with ⟨rfl,rfl⟩ | ⟨rfl,rfl⟩ | ⟨rfl,rfl,hn⟩
 ·exact text_int n h0 h1 w hg
 ·exact text_str s hs w hg
 ·exact text_bool n hn w
end Go.Proofs.YtnaehhpikhlppaaGreatDoor

namespace Go.Proofs.YtnaehhpikhlppaaGreatDoor.ParS
open LexS
theorem lexT_tx {s:Bytes} (h:LexT (tx s)):s.length≤64:=by
 rcases lexT_cases h with ⟨_,h1⟩ | ⟨h1,_⟩
 ·exact h1
 ·exact absurd rfl (h1 34 (by show (34:UInt8)∈(34::(s.flatMap esc++[34]):Bytes);simp)).2
theorem lexT_nm {n:Int} (h:LexT (nm n)) : -9223372036854775808≤n∧n≤9223372036854775807:=by
 obtain ⟨h1,c,r,h2,_⟩:=h
 rw [h2] at h1
 unfold oneS at h1
 dsimp only at h1
 have kind:∀ (t:Tok) (k m:Nat),(t,k)=((⟨(nm n).kind,(nm n).s,(nm n).n,0⟩:Tok),m)→t.kind=2∧t.n=n:=by
  intro t k m e
  have:=(Prod.mk.inj e).1
  subst this
  exact ⟨rfl,rfl⟩
 by_cases hl:letterB c=true
 ·rw [if_pos hl] at h1
  split at h1
  ·have:=(kind _ _ _ h1).1
   cases this
  ·have:=(kind _ _ _ h1).1
   cases this
 ·rw [if_neg hl] at h1
  by_cases hq:c.toNat=34
  ·rw [if_pos hq] at h1
   rcases hx:textS (c::r) with _ | ⟨s,k⟩
   ·rw [hx] at h1
    have:=(kind _ _ _ h1).1
    cases this
   ·rw [hx] at h1
    have:=(kind _ _ _ h1).1
    cases this
  ·rw [if_neg hq] at h1
   by_cases hd:digitB c=true∨(c.toNat=45∧r.head?.map digitB=some true)
   ·rw [if_pos hd] at h1
    rcases hx:numberS (c::r) with _ | ⟨v,k⟩
    ·rw [hx] at h1
     have:=(kind _ _ _ h1).1
     cases this
    ·rw [hx] at h1
     have e:=(kind _ _ _ h1).2
     unfold numberS at hx
     split at hx
     ·rename_i v' ha
      split at hx
      ·simp only [Option.some.injEq,Prod.mk.injEq] at hx
       obtain ⟨rfl,rfl⟩:=hx
       have e2:v'=n:=e
       subst e2
       exact Lib.atoiAll_bounds ha
      ·cases hx
     ·cases hx
   ·rw [if_neg hd] at h1
    split at h1
    ·have:=(kind _ _ _ h1).1
     cases this
    ·have:=(kind _ _ _ h1).1
     cases this
theorem gap_len (p t:Tk):(gapT p t).length≤1:=by
 unfold gapT
 split<;>simp
theorem spellR_len:∀ (l:List Tk) (p:Tk),(∀ t∈l,LexT t)→(spellR p l).length≤131*l.length
 | [],_,_=>Nat.zero_le _
 | t::r,p,h=>by
   have h1:=spellR_len r t fun x hx=>h x (by simp [hx])
   have h2:=lexT_small (h t (by simp))
   have h3:=gap_len p t
   show (gapT p t++oneT t++spellR t r).length≤_
   simp only [List.length_append,List.length_cons]
   omega
theorem spell_len {l:List Tk} (h:∀ t∈l,LexT t):(spell l).length≤131*l.length:=by
 cases l with
 | nil=>exact Nat.zero_le _
 | cons t r =>
   have h1:=spellR_len r t fun x hx=>h x (by simp [hx])
   have h2:=lexT_small (h t (by simp))
   show (oneT t++spellR t r).length≤_
   simp only [List.length_append,List.length_cons]
   omega
structure CondIn (w:Nat) (c:Cd):Prop where
 ok:c.Ok
 lex:∀ t∈c.tok w,LexT t
 few:(c.tok w).length≤1024
theorem brk_sub {rank wanted:Nat} {l:List Tk}:l.length≤(brk rank wanted l).length∧∀ t∈l,t∈brk rank wanted l:=by
 unfold brk
 split
 ·exact ⟨by simp;omega,fun t ht=>by simp [ht]⟩
 ·exact ⟨Nat.le_refl _,fun t ht=>ht⟩
section
variable {w:Nat} {c a b:Cd}
theorem CondIn.base (h:CondIn w c):CondIn 0 c:=by
 obtain ⟨h1,h2⟩:=brk_sub (rank:=c.rank) (wanted:=w) (l:=c.body)
 refine ⟨h.ok,fun t ht=>h.lex t ?_,?_⟩
 ·rw [Cd.tok0] at ht
  exact h2 t ht
 ·rw [Cd.tok0]
  exact Nat.le_trans h1 h.few
theorem CondIn.inNot (h:CondIn w (.not c)):CondIn 3 c:=by
 have h:=h.base
 have e:Cd.tok 0 (.not c)=[wd kw_not]++c.tok 3:=by rw [Cd.tok0];rfl
 refine ⟨h.ok,fun t ht=>h.lex t (by rw [e];simp [ht]),?_⟩
 have:=h.few
 rw [e] at this
 simp at this
 omega
theorem CondIn.inAnd (h:CondIn w (.and a b)):CondIn 2 a∧CondIn 3 b:=by
 have h:=h.base
 have e:Cd.tok 0 (.and a b)=a.tok 2++[wd kw_and]++b.tok 3:=by rw [Cd.tok0];rfl
 have hf:=h.few
 rw [e] at hf
 simp at hf
 exact ⟨⟨h.ok.1,fun t ht=>h.lex t (by rw [e];simp [ht]),by omega⟩,⟨h.ok.2,fun t ht=>h.lex t (by rw [e];simp [ht]),by omega⟩⟩
theorem CondIn.inOr (h:CondIn w (.or a b)):CondIn 1 a∧CondIn 2 b:=by
 have h:=h.base
 have e:Cd.tok 0 (.or a b)=a.tok 1++[wd kw_or]++b.tok 2:=by rw [Cd.tok0];rfl
 have hf:=h.few
 rw [e] at hf
 simp at hf
 exact ⟨⟨h.ok.1,fun t ht=>h.lex t (by rw [e];simp [ht]),by omega⟩,⟨h.ok.2,fun t ht=>h.lex t (by rw [e];simp [ht]),by omega⟩⟩
theorem CondIn.len (h:CondIn w c):(c.textB w).length≤134144:=by
 rw [← (cond_text h.ok w).2]
 have:=spell_len h.lex
 have:=h.few
 omega
theorem CondIn.inHas {s t:Bytes} (h:CondIn w (.has s t)):s.length≤130∧t.length≤64:=by
 have h:=h.base
 have e:Cd.tok 0 (.has s t)=[wd s,wd kw_has,tx t]:=by rw [Cd.tok0];rfl
 exact ⟨lexT_small (t:=wd s) (h.lex _ (by rw [e];simp)),lexT_tx (h.lex _ (by rw [e];simp))⟩
theorem CondIn.inCmp {s:Bytes} {n:Nat} {v:Val} (h:CondIn w (.cmp s n v)):s.length≤130∧1≤n∧n≤6∧ValOk v∧(-9223372036854775808≤v.n∧v.n≤9223372036854775807)∧v.s.length≤64:=by
 have h:=h.base
 obtain ⟨_,h1,h2,hv⟩:=h.ok
 have e:Cd.tok 0 (.cmp s n v)=[wd s,sg (signW n)]++valT v:=by rw [Cd.tok0];rfl
 have hs:=lexT_small (t:=wd s) (h.lex _ (by rw [e];simp))
 have hl:∀ t∈valT v,LexT t:=fun t ht=>h.lex t (by rw [e];simp [ht])
 refine ⟨hs,h1,h2,hv,?_⟩
 obtain ⟨k,m,x⟩:=v
 unfold ValOk at hv
 dsimp only at hv ⊢
 rcases hv with ⟨rfl,rfl⟩ | ⟨rfl,rfl⟩ | ⟨rfl,rfl,hm⟩
 ·exact ⟨lexT_nm (hl _ (by show nm m ∈ [nm m];simp)),Nat.zero_le _⟩
 ·exact ⟨by omega,lexT_tx (hl _ (by show tx x ∈ [tx x];simp))⟩
 ·exact ⟨by omega,Nat.zero_le _⟩
end
end Go.Proofs.YtnaehhpikhlppaaGreatDoor.ParS

namespace Go.Proofs.YtnaehhpikhlppaaGreatDoor
open Go.RowKit LexS ParS BigFrame
attribute [local go_sem] field_tok1 field_tok2
attribute [local go_sem] World.cell?_alloc_some cell_drewN_new free_drewN_new cell_drew_new free_drew_new
def PostN (base r:Nat) (tv:Value) (T:List Tok) (deep:Nat) (nv:Value) (W:World) (x:Except Er (Nat×List Tk×List Nd)) (e:Ending) (W':World):Prop:=match x with
 | .error (k,long)=>e=Bad T k long∧∃ nv',Stp r nv W nv' W'
 | .ok (a,ts1,ns1) => ∃ nv',e=.returned (.int .i64 (a:Int))∧RS base r tv T deep ts1 ns1 nv' W'∧Stp r nv W nv' W'
def Nice (p:M Nat):Prop:=Cost 0 0 p∧∀ {e:Prop},Rel Quits e p p
theorem Nice.short {p:M Nat} (h:Nice p) {ts ts1:List Tk} {ns ns1:List Nd} {a:Nat} (hp:p ts ns=.ok (a,ts1,ns1)):ts1.length≤ts.length:=((h.2 (e:=True)) _ _ _ _ _ hp).1
theorem nice_both {n:M Nat} (h:Nice n):Nice (bothOf n):=⟨cost_both h.1,rel_joined (.inr rfl) h.2⟩
theorem nice_cond {n:M Nat} (h:Nice n):Nice (condOf n):=⟨cost_cond h.1,rel_cond h.2⟩
theorem nice_not (d:Nat):Nice (pNot d):=⟨cost_not d,rel_not d 0⟩
def Reads (K:FuncId) (p:M Nat) (deep:Nat):Prop := ∀ (base r:Nat) (tv nv:Value) (T:List Tok) (ts:List Tk) (ns:List Nd) (W:World),RS base r tv T deep ts ns nv W→base≤W.heap.size→ns.length+ts.length≤5000 →
 Calls Tryz.prog K #[RP r] W (PostN base r tv T deep nv W (p ts ns))
theorem own_blk {W:World} {base g n:Nat} {e:TypeId} {cs:List Value} (h:Blk W g e cs.toArray) (hb:base≤g) (hn:cs.length=n) (hm:n≤1000):W.ownsRow base e 1 (.slice (some ⟨g,0,none⟩) n n) n cs:=by
 refine ⟨by omega,.inr ⟨g,n,cs.toArray,rfl,hb,h,Nat.le_refl _,by unfold maxLen;omega,by simp [hn],?_⟩⟩
 simp [← hn]
def ndM (kind:Nat) (l:List Nat) (g:Nat):NodeM:=⟨node kind l,.slice (some ⟨g,0,none⟩) l.length l.length,.slice none 0 0,.slice none 0 0⟩
theorem nil_row {W:World} {base size:Nat} {e:TypeId}:W.ownsRow base e size (.slice none 0 0) 0 []:=World.ownsRow_nil W base e size
theorem ndM_ok {W:World} {base kind g:Nat} {l:List Nat} (h:Blk W g 3 (intsL l).toArray) (hb:base≤g) (hl:l.length≤1000):MOk W base (ndM kind l g) :=
 ⟨own_blk h hb (by simp [intsL,ndM,node]) hl,nil_row,nil_row⟩
section
variable {w:Bytes} {kind:Nat} {read:M Nat} {f a b:Nat} {ts ts1 ts2:List Tk} {ns ns1 ns2:List Nd} {er:Er}
theorem joined_ok' (h:read ts ns=.ok (a,ts1,ns1)):joined w kind read ts ns=joinedGo w kind read fuel a ts1 ns1:=by
 unfold joined M.bind
 rw [h]
theorem joined_err (h:read ts ns=.error er):joined w kind read ts ns=.error er:=by
 unfold joined M.bind
 rw [h]
theorem joinedGo_none (h:sees w ts=none):joinedGo w kind read (f+1) a ts ns=.ok (a,ts,ns):=by
 unfold joinedGo
 rw [h]
theorem joinedGo_some (h:sees w ts=some ts1) (hr:read ts1 ns=.ok (b,ts2,ns2)):joinedGo w kind read (f+1) a ts ns=joinedGo w kind read f ns2.length ts2 (ns2++[node kind [a,b]]):=by
 rw [joinedGo]
 dsimp only
 rw [h]
 unfold M.bind lay
 dsimp only
 rw [hr]
theorem joinedGo_bad (h:sees w ts=some ts1) (hr:read ts1 ns=.error er):joinedGo w kind read (f+1) a ts ns=.error er:=by
 rw [joinedGo]
 dsimp only
 rw [h]
 unfold M.bind
 dsimp only
 rw [hr]
end
structure JK (base r deep:Nat) (tv nv:Value) (T:List Tok) (W:World) (w:Bytes) (kind:Nat) (read:M Nat) (ts:List Tk) (ns:List Nd) (f a:Nat) (ts1:List Tk) (ns1:List Nd) (nv1:Value) (W1:World):Prop where
 eq:joined w kind read ts ns=joinedGo w kind read f a ts1 ns1
 fl:ts1.length<f
 rs:RS base r tv T deep ts1 ns1 nv1 W1
 st:Stp r nv W nv1 W1
 bd:ns1.length+ts1.length≤ns.length+ts.length
section
variable {base r deep:Nat} {tv nv nv':Value} {T:List Tok} {ts ts1:List Tk} {ns:List Nd} {W W':World}
theorem joined_not {w:Bytes} {kind:Nat} {read:M Nat} (hread:Reads 190 read deep) (hcost:Nice read) (h:RS base r tv T deep ts ns nv W) (hbase:base≤W.heap.size) (hB:ns.length+ts.length≤5000) :
 Calls Tryz.prog 169 #[RP r,.string (BA w),.int .i64 (kind:Int),.func (.func 190) #[RP r] #[]] W (PostN base r tv T deep nv W (joined w kind read ts ns)):=by
 have HR:=Lib.hid hread
 have HC:=Lib.hid hcost
 have H:=Lib.hid h
 clear hread hcost h
 go_enter Tryz.func169,Tryz.ntmps169
 go_wp2_with fail
 refine (HR.out _ _ _ _ _ _ _ _ H.out hbase hB).mono ?_
 rintro e w1 hp
 rcases hr:read ts ns with ⟨k,long⟩ | ⟨a,ts1,ns1⟩
 ·rw [hr] at hp
  obtain ⟨rfl,nv1,s1⟩:=hp
  have HF:=Lib.hid (joined_err (w:=w) (kind:=kind) hr)
  have S1:=Lib.hid s1
  clear hr s1
  unfold Bad
  go_wp2_with fail
  exact ⟨rfl,by rw [HF.out];exact ⟨rfl,_,S1.out⟩⟩
 ·rw [hr] at hp
  obtain ⟨nv1,rfl,h1,s1⟩:=hp
  have hc1:=HC.out.1 _ _ _ _ _ hr
  have hsh:=HC.out.short hr
  have HJ:=Lib.hid (show JK base r deep tv nv T W w kind read ts ns fuel a ts1 ns1 nv1 w1 from ⟨joined_ok' hr,by have h2:=h1.short;have h3:=h1.few;unfold fuel;omega,h1,s1,by omega⟩)
  clear hr h1 s1 hc1 hsh
  go_wp2_with fail
  go_loopg [9] (ts1.length+2) (fun gk c wr => ∃ f a2 ts2 ns2 nv2,ts2.length<gk∧c=.int .i64 ((a2:Nat):Int)∧JK base r deep tv nv T W w kind read ts ns f a2 ts2 ns2 nv2 wr)
  case atStart=>exact ⟨_,_,_,_,_,by omega,rfl,HJ.out⟩
  case round =>
   obtain ⟨f,a2,ts2,ns2,nv2,hgk,rfl,hj⟩:=hrel
   have hbd:=hj.bd
   have hfl:=hj.fl
   obtain ⟨f1,rfl⟩:∃ f1,f=f1+1:=⟨f-1,by omega⟩
   have HK:=Lib.hid hj
   clear hj HJ
   rcases hs:sees w ts2 with _ | ts3
   ·have HE:=Lib.hid (show joined w kind read ts ns=.ok (a2,ts2,ns2) by rw [HK.out.eq,joinedGo_none hs])
    have HS:=Lib.hid (sees_no HK.out.rs hs)
    clear hs
    go_wp2_with fail
    refine HS.out.mono ?_
    rintro e w2 ⟨rfl,h2,m2⟩
    have HF:=Lib.hid (And.intro h2 (HK.out.st.trans (m2.stp _)))
    clear h2 m2
    go_wp2_with fail
    exact bodyPost_ret (results_tmp rfl _ _ _) rfl (by rw [HE.out];exact ⟨_,rfl,HF.out⟩)
   ·have hl3:=sees_len hs
    have HS:=Lib.hid (sees_yes HK.out.rs hs)
    have HSE:=Lib.hid hs
    clear hs
    go_wp2_with fail
    refine HS.out.mono ?_
    rintro e w2 ⟨rfl,h2,m2⟩
    have S2:=Lib.hid (HK.out.st.trans (m2.stp _))
    have H2:=Lib.hid h2
    have hb2:base≤w2.heap.size:=Nat.le_trans hbase S2.out.size
    clear h2 m2
    go_wp2_with fail
    refine (HR.out _ _ _ _ _ _ _ _ H2.out hb2 (by omega)).mono ?_
    rintro e w3 hp
    rcases hr:read ts3 ns2 with ⟨k,long⟩ | ⟨b,ts4,ns4⟩
    ·rw [hr] at hp
     obtain ⟨rfl,nv3,s3⟩:=hp
     have HE:=Lib.hid (show joined w kind read ts ns=.error (k,long) by rw [HK.out.eq,joinedGo_bad HSE.out hr])
     have S3:=Lib.hid (S2.out.trans s3)
     clear hr s3
     unfold Bad
     go_wp2_with fail
     exact ⟨rfl,by rw [HE.out];exact ⟨rfl,_,S3.out⟩⟩
    ·rw [hr] at hp
     obtain ⟨nv3,rfl,h3,s3⟩:=hp
     have hc3:=HC.out.1 _ _ _ _ _ hr
     have hsh:=HC.out.short hr
     have HE:=Lib.hid (show joined w kind read ts ns=joinedGo w kind read f1 ns4.length ts4 (ns4++[node kind [a2,b]]) by rw [HK.out.eq,joinedGo_some HSE.out hr])
     have S3:=Lib.hid (S2.out.trans s3)
     have hb3:base≤w3.heap.size:=Nat.le_trans hbase S3.out.size
     have hbw:Below w3.heap.size w3 (w3.alloc (.cells #[.int .i64 (a2:Int),.int .i64 (b:Int)] 3)):=(Below.refl _ _).alloc (Nat.le_refl _) _
     have HL:=Lib.hid (lay_any (ndM kind [a2,b] w3.heap.size) (h3.kept hbw) (ndM_ok (Blk.new w3 _ _) hb3 (by simp)) (by omega) (Nat.le_trans hb3 hbw.size))
     have S4:=Lib.hid (S3.out.trans (Stp.of (r:=r) hbw))
     clear hr h3 s3 hbw
     go_wp2_with fail
     refine HL.out.mono ?_
     rintro e w4 ⟨nv4,rfl,h4,s4⟩
     have HN:=Lib.hid (show JK base r deep tv nv T W w kind read ts ns f1 ns4.length ts4 (ns4++[node kind [a2,b]]) nv4 w4 from ⟨HE.out,by omega,h4,S4.out.trans s4,by simp only [List.length_append,List.length_singleton];omega⟩)
     clear h4 s4
     go_wp2_with fail
     go_roundg (ts2.length)
     case measure=>omega
     case rel=>exact ⟨f1,_,ts4,_,_,by omega,rfl,HN.out⟩
theorem joined_both {w:Bytes} {kind:Nat} {read:M Nat} (hread:Reads 170 read deep) (hcost:Nice read) (h:RS base r tv T deep ts ns nv W) (hbase:base≤W.heap.size) (hB:ns.length+ts.length≤5000) :
 Calls Tryz.prog 169 #[RP r,.string (BA w),.int .i64 (kind:Int),.func (.func 170) #[RP r] #[]] W (PostN base r tv T deep nv W (joined w kind read ts ns)):=by
 have HR:=Lib.hid hread
 have HC:=Lib.hid hcost
 have H:=Lib.hid h
 clear hread hcost h
 go_enter Tryz.func169,Tryz.ntmps169
 go_wp2_with fail
 refine (HR.out _ _ _ _ _ _ _ _ H.out hbase hB).mono ?_
 rintro e w1 hp
 rcases hr:read ts ns with ⟨k,long⟩ | ⟨a,ts1,ns1⟩
 ·rw [hr] at hp
  obtain ⟨rfl,nv1,s1⟩:=hp
  have HF:=Lib.hid (joined_err (w:=w) (kind:=kind) hr)
  have S1:=Lib.hid s1
  clear hr s1
  unfold Bad
  go_wp2_with fail
  exact ⟨rfl,by rw [HF.out];exact ⟨rfl,_,S1.out⟩⟩
 ·rw [hr] at hp
  obtain ⟨nv1,rfl,h1,s1⟩:=hp
  have hc1:=HC.out.1 _ _ _ _ _ hr
  have hsh:=HC.out.short hr
  have HJ:=Lib.hid (show JK base r deep tv nv T W w kind read ts ns fuel a ts1 ns1 nv1 w1 from ⟨joined_ok' hr,by have h2:=h1.short;have h3:=h1.few;unfold fuel;omega,h1,s1,by omega⟩)
  clear hr h1 s1 hc1 hsh
  go_wp2_with fail
  go_loopg [9] (ts1.length+2) (fun gk c wr => ∃ f a2 ts2 ns2 nv2,ts2.length<gk∧c=.int .i64 ((a2:Nat):Int)∧JK base r deep tv nv T W w kind read ts ns f a2 ts2 ns2 nv2 wr)
  case atStart=>exact ⟨_,_,_,_,_,by omega,rfl,HJ.out⟩
  case round =>
   obtain ⟨f,a2,ts2,ns2,nv2,hgk,rfl,hj⟩:=hrel
   have hbd:=hj.bd
   have hfl:=hj.fl
   obtain ⟨f1,rfl⟩:∃ f1,f=f1+1:=⟨f-1,by omega⟩
   have HK:=Lib.hid hj
   clear hj HJ
   rcases hs:sees w ts2 with _ | ts3
   ·have HE:=Lib.hid (show joined w kind read ts ns=.ok (a2,ts2,ns2) by rw [HK.out.eq,joinedGo_none hs])
    have HS:=Lib.hid (sees_no HK.out.rs hs)
    clear hs
    go_wp2_with fail
    refine HS.out.mono ?_
    rintro e w2 ⟨rfl,h2,m2⟩
    have HF:=Lib.hid (And.intro h2 (HK.out.st.trans (m2.stp _)))
    clear h2 m2
    go_wp2_with fail
    exact bodyPost_ret (results_tmp rfl _ _ _) rfl (by rw [HE.out];exact ⟨_,rfl,HF.out⟩)
   ·have hl3:=sees_len hs
    have HS:=Lib.hid (sees_yes HK.out.rs hs)
    have HSE:=Lib.hid hs
    clear hs
    go_wp2_with fail
    refine HS.out.mono ?_
    rintro e w2 ⟨rfl,h2,m2⟩
    have S2:=Lib.hid (HK.out.st.trans (m2.stp _))
    have H2:=Lib.hid h2
    have hb2:base≤w2.heap.size:=Nat.le_trans hbase S2.out.size
    clear h2 m2
    go_wp2_with fail
    refine (HR.out _ _ _ _ _ _ _ _ H2.out hb2 (by omega)).mono ?_
    rintro e w3 hp
    rcases hr:read ts3 ns2 with ⟨k,long⟩ | ⟨b,ts4,ns4⟩
    ·rw [hr] at hp
     obtain ⟨rfl,nv3,s3⟩:=hp
     have HE:=Lib.hid (show joined w kind read ts ns=.error (k,long) by rw [HK.out.eq,joinedGo_bad HSE.out hr])
     have S3:=Lib.hid (S2.out.trans s3)
     clear hr s3
     unfold Bad
     go_wp2_with fail
     exact ⟨rfl,by rw [HE.out];exact ⟨rfl,_,S3.out⟩⟩
    ·rw [hr] at hp
     obtain ⟨nv3,rfl,h3,s3⟩:=hp
     have hc3:=HC.out.1 _ _ _ _ _ hr
     have hsh:=HC.out.short hr
     have HE:=Lib.hid (show joined w kind read ts ns=joinedGo w kind read f1 ns4.length ts4 (ns4++[node kind [a2,b]]) by rw [HK.out.eq,joinedGo_some HSE.out hr])
     have S3:=Lib.hid (S2.out.trans s3)
     have hb3:base≤w3.heap.size:=Nat.le_trans hbase S3.out.size
     have hbw:Below w3.heap.size w3 (w3.alloc (.cells #[.int .i64 (a2:Int),.int .i64 (b:Int)] 3)):=(Below.refl _ _).alloc (Nat.le_refl _) _
     have HL:=Lib.hid (lay_any (ndM kind [a2,b] w3.heap.size) (h3.kept hbw) (ndM_ok (Blk.new w3 _ _) hb3 (by simp)) (by omega) (Nat.le_trans hb3 hbw.size))
     have S4:=Lib.hid (S3.out.trans (Stp.of (r:=r) hbw))
     clear hr h3 s3 hbw
     go_wp2_with fail
     refine HL.out.mono ?_
     rintro e w4 ⟨nv4,rfl,h4,s4⟩
     have HN:=Lib.hid (show JK base r deep tv nv T W w kind read ts ns f1 ns4.length ts4 (ns4++[node kind [a2,b]]) nv4 w4 from ⟨HE.out,by omega,h4,S4.out.trans s4,by simp only [List.length_append,List.length_singleton];omega⟩)
     clear h4 s4
     go_wp2_with fail
     go_roundg (ts2.length)
     case measure=>omega
     case rel=>exact ⟨f1,_,ts4,_,_,by omega,rfl,HN.out⟩
theorem hmfA:∀ (fn:Fn) (first cap:Array Value) (w:World),(Instr.makeFunc fn first cap).run Tryz.prog w=.ok (.func fn first cap) w:=fun _ _ _ _=>rfl
theorem both_reads {n:M Nat} (hn:Reads 190 n deep) (hc:Nice n):Reads 170 (bothOf n) deep:=by
 intro base r tv nv T ts ns W h hbase hB
 have hmf:=hmfA
 have HJ:=Lib.hid (joined_not (w:=kw_and) (kind:=11) hn hc h hbase hB)
 clear h
 go_enter Tryz.func170,Tryz.ntmps170
 go_wp2_with fail
 refine HJ.out.mono ?_
 rintro e w1 hp
 rcases hr:joined kw_and 11 n ts ns with ⟨k,long⟩ | ⟨a,ts1,ns1⟩
 ·rw [hr] at hp
  obtain ⟨rfl,nv1,s1⟩:=hp
  have HF:=Lib.hid (And.intro hr s1)
  clear hr s1
  unfold Bad
  go_wp2_with fail
  exact ⟨rfl,by show PostN base r tv T deep nv W (joined kw_and 11 n ts ns) _ _;rw [HF.out.1];exact ⟨rfl,_,HF.out.2⟩⟩
 ·rw [hr] at hp
  obtain ⟨nv1,rfl,h1,s1⟩:=hp
  have HF:=Lib.hid (And.intro hr (And.intro h1 s1))
  clear hr h1 s1
  go_wp2_with fail
  exact bodyPost_ret (results_tmp rfl _ _ _) rfl (by show PostN base r tv T deep nv W (joined kw_and 11 n ts ns) _ _;rw [HF.out.1];exact ⟨_,rfl,HF.out.2⟩)
theorem cond_reads {n:M Nat} (hn:Reads 190 n deep) (hc:Nice n):Reads 144 (condOf n) deep:=by
 intro base r tv nv T ts ns W h hbase hB
 have hmf:=hmfA
 have HJ:=Lib.hid (joined_both (w:=kw_or) (kind:=12) (both_reads hn hc) (nice_both hc) h hbase hB)
 clear h
 go_enter Tryz.func144,Tryz.ntmps144
 go_wp2_with fail
 refine HJ.out.mono ?_
 rintro e w1 hp
 rcases hr:joined kw_or 12 (bothOf n) ts ns with ⟨k,long⟩ | ⟨a,ts1,ns1⟩
 ·rw [hr] at hp
  obtain ⟨rfl,nv1,s1⟩:=hp
  have HF:=Lib.hid (And.intro hr s1)
  clear hr s1
  unfold Bad
  go_wp2_with fail
  exact ⟨rfl,by show PostN base r tv T deep nv W (joined kw_or 12 (bothOf n) ts ns) _ _;rw [HF.out.1];exact ⟨rfl,_,HF.out.2⟩⟩
 ·rw [hr] at hp
  obtain ⟨nv1,rfl,h1,s1⟩:=hp
  have HF:=Lib.hid (And.intro hr (And.intro h1 s1))
  clear hr h1 s1
  go_wp2_with fail
  exact bodyPost_ret (results_tmp rfl _ _ _) rfl (by show PostN base r tv T deep nv W (joined kw_or 12 (bothOf n) ts ns) _ _;rw [HF.out.1];exact ⟨_,rfl,HF.out.2⟩)
end
end Go.Proofs.YtnaehhpikhlppaaGreatDoor
