/- Several texts of the proof, joined. -/
import Derived.Test.YtnaehhpikhlppaaGreatDoorE23
set_option maxHeartbeats 4000000
set_option maxRecDepth 100000
set_option linter.unusedVariables false
set_option linter.unusedSimpArgs false
namespace Go.Proofs.YtnaehhpikhlppaaGreatDoor
open Go.RowKit LexS ParS BigFrame
theorem textB_low {c:Cd} {w:Nat} (h:w≤c.rank):c.textB w=c.bodyB:=by
 unfold Cd.textB brkB
 rw [if_neg (by omega)]
theorem body_len {w:Nat} {c:Cd} (h:CondIn w c):c.bodyB.length≤134144:=by
 have:=h.base.len
 rwa [textB_low (Nat.zero_le _)] at this
def Writes (ns:List Nd) (g cap i wanted:Nat) (t:Bytes):Prop := ∀ W,NR W (.slice (some ⟨g,0,none⟩) ns.length cap) ns→PW W→Calls Tryz.prog 32 #[.agg #[.slice (some ⟨g,0,none⟩) ns.length cap],.int .i64 (i:Int),.int .i64 (wanted:Int)] W (CondP W t)
theorem writes_any {ns:List Nd} {g cap i wanted rank:Nat} {nd:Nd} {t:Bytes} (hr1:1≤rank) (hi:ns[i]?=some nd) (hk:(if nd.kind=12 then 1 else if nd.kind=11 then 2 else 3:Nat)=rank) (hl:t.length≤134144)
 (body:∀ w,w≤rank→Writes ns g cap i w t):Writes ns g cap i wanted (brkB rank wanted t):=by
 unfold brkB
 by_cases h:rank<wanted
 ·rw [if_pos h]
  exact fun W hn hp=>cond_brk wanted h hr1 hi hk hn hp hl (body 0 (Nat.zero_le _))
 ·rw [if_neg h]
  exact body wanted (by omega)
theorem cond_any (ns:List Nd) (g cap:Nat):∀ (c:Cd) (b wanted:Nat),CondIn wanted c→wanted≤3→At ns b (c.flat b)→Writes ns g cap (b+c.len-1) wanted (c.textB wanted)
 | .cmp s n v,b,wanted,h,hw,ha=>by
   obtain ⟨hs,n1,n2,hv,hvn,hvs⟩:=h.inCmp
   rw [textB_low hw]
   exact fun W hn hp=>cond_cmp wanted hw ha.one hn hp hs n1 n2 hv hvn hvs
 | .has s t,b,wanted,h,hw,ha=>by
   obtain ⟨hs,ht⟩:=h.inHas
   rw [textB_low hw]
   exact fun W hn hp=>cond_has wanted hw ha.one hn hp hs ht
 | .not c,b,wanted,h,hw,ha=>by
   have h2:=h.inNot
   have ih:=cond_any ns g cap c b 3 h2 (Nat.le_refl _) ha.left
   have hi:=ha.right.one
   rw [Cd.flat_len] at hi
   rw [textB_low hw]
   exact fun W hn hp=>cond_not wanted hw hi hn hp h2.len ih
 | .and x y,b,wanted,h,hw,ha=>by
   obtain ⟨h1,h2⟩:=h.inAnd
   have ih1:=cond_any ns g cap x b 2 h1 (by omega) ha.left.left
   have ha2:=ha.left.right
   rw [Cd.flat_len] at ha2
   have ih2:=cond_any ns g cap y (b+x.len) 3 h2 (Nat.le_refl _) ha2
   have hi:=ha.right.one
   rw [List.length_append,Cd.flat_len,Cd.flat_len,← Nat.add_assoc] at hi
   have e:b+Cd.len (.and x y)-1=b+x.len+y.len:=by show b+(x.len+y.len+1)-1=_;omega
   rw [e]
   exact writes_any (rank:=2) (by omega) hi rfl (body_len h) fun w hw2 W hn hp=>cond_and w hw2 hi hn hp h1.len h2.len ih1 ih2
 | .or x y,b,wanted,h,hw,ha=>by
   obtain ⟨h1,h2⟩:=h.inOr
   have ih1:=cond_any ns g cap x b 1 h1 (by omega) ha.left.left
   have ha2:=ha.left.right
   rw [Cd.flat_len] at ha2
   have ih2:=cond_any ns g cap y (b+x.len) 2 h2 (by omega) ha2
   have hi:=ha.right.one
   rw [List.length_append,Cd.flat_len,Cd.flat_len,← Nat.add_assoc] at hi
   have e:b+Cd.len (.or x y)-1=b+x.len+y.len:=by show b+(x.len+y.len+1)-1=_;omega
   rw [e]
   exact writes_any (rank:=1) (by omega) hi rfl (body_len h) fun w hw2 W hn hp=>cond_or w hw2 hi hn hp h1.len h2.len ih1 ih2
end Go.Proofs.YtnaehhpikhlppaaGreatDoor
