/- Several texts of the proof, joined. -/
import Derived.Below
import Derived.Laws.OwnMore
import Derived.Deep.Draws
import Derived.Laws.Rows
import Derived.WalkKit
import Derived.LoopTactic
import Derived.BigQuiet
import Derived.Outline
import Derived.Lib.Hide
import Derived.Deep.DeepCutAuto
import Derived.Deep.RegionHeld3
import Derived.Deep.LoopGhost
import Derived.Test.YtnaehhpikhlppaaGreatDoorProg
import Derived.Lib.ItoaNum
import Derived.Lib.AtoiAll
import Derived.Lib.Builder
import Derived.Laws.Externs
set_option maxHeartbeats 4000000
set_option maxRecDepth 100000
set_option linter.unusedVariables false
set_option linter.unusedSimpArgs false
namespace Go.Proofs.YtnaehhpikhlppaaGreatDoor
open Go.RowKit
def Blk (w:World) (g:Nat) (t:TypeId) (cs:Array Value):Prop:=w.heap[g]?=some (.cells cs t (0,0))
section
variable {w w':World} {g:Nat} {t:TypeId} {cs:Array Value}
theorem Blk.lt (h:Blk w g t cs):g<w.heap.size:=by
 unfold Blk at h
 exact (Array.getElem?_eq_some_iff.1 h).1
theorem Blk.cell (h:Blk w g t cs) (i:Nat):w.cell? ⟨g,i,none⟩=cs[i]?:=cell_of_row w g i cs t (0,0) h
theorem Blk.free (h:Blk w g t cs) (i:Nat):w.frozen? ⟨g,i,none⟩=false:=by
 unfold Blk at h
 simp [World.frozen?,h]
theorem Blk.new (w:World) (t:TypeId) (cs:Array Value):Blk (w.alloc (.cells cs t)) w.heap.size t cs:=heap_alloc_new w _
theorem Blk.alloc (h:Blk w g t cs) (o:Obj):Blk (w.alloc o) g t cs:=(Below.heap_alloc w o g h.lt).trans h
theorem Blk.drewN (h:Blk w g t cs) (n:Nat):Blk (w.drewN n) g t cs:=h
theorem Blk.drew (h:Blk w g t cs):Blk w.drew g t cs:=h
theorem Blk.put (h:Blk w g t cs) (i:Nat) (u:Value):Blk (w.setCell ⟨g,i,none⟩ u) g t (cs.setIfInBounds i u):=by
 unfold Blk at h ⊢
 simp [World.setCell,Array.getElem?_modify,h]
theorem Blk.far (h:Blk w g t cs) {p:Addr} (hp:g≠p.block) (u:Value):Blk (w.setCell p u) g t cs:=(Below.heap_setCell w p u g hp).trans h
theorem Blk.below {b:Nat} (h:Blk w g t cs) (hb:Below b w w') (hg:g<b):Blk w' g t cs:=(hb.block g hg).trans h
theorem Blk.kept (h:Blk w g t cs) (hb:Below w.heap.size w w'):Blk w' g t cs:=h.below hb h.lt
end
theorem below_drewN {b:Nat} {a w:World} (h:Below b a w) (n:Nat):Below b a (w.drewN n):=⟨h.os,h.tape,h.output,h.size,h.block⟩
theorem chain {w a b:World} (h1:Below w.heap.size w a) (h2:Below a.heap.size a b):Below w.heap.size w b:=h1.trans (h2.mono h1.size)
theorem keepc {W w1:World} {g i:Nat} {v:Value} (hb:Below W.heap.size W w1) (h:W.cell? ⟨g,i,none⟩=some v):w1.cell? ⟨g,i,none⟩=some v :=
 (hb.cell (p:=⟨g,i,none⟩) (World.block_lt_of_cell? W _ h)).trans h
theorem size_list (s:ByteArray):s.data.toList.length=s.size:=by simp
theorem byte_at {s:ByteArray} {i:Nat} {c:UInt8} {r:List UInt8} (h:s.data.toList.drop i=c::r):∃ hi:i<s.size,s[i]'hi=c∧s.data.toList.drop (i+1)=r:=by
 have hlt:i<s.data.toList.length:=by
  rcases Nat.lt_or_ge i s.data.toList.length with h1 | h1
  ·exact h1
  ·rw [List.drop_eq_nil_of_le h1] at h;cases h
 rw [List.drop_eq_getElem_cons hlt] at h
 injection h with h1 h2
 exact ⟨by rw [size_list] at hlt;exact hlt,h1,h2⟩
theorem at_end {s:ByteArray} {i:Nat} (h:s.data.toList.drop i=[]):s.size≤i:=by
 rw [← size_list]
 rcases Nat.lt_or_ge i s.data.toList.length with h1 | h1
 ·rw [List.drop_eq_getElem_cons h1] at h;cases h
 ·exact h1
theorem list_cut (s:ByteArray) (a b:Nat):(s.extract a b).data.toList=(s.data.toList.take b).drop a:=by
 rw [ByteArray.data_extract,Array.toList_extract,List.extract_eq_take_drop]
 rw [List.drop_take]
theorem list_from (s:ByteArray) (a:Nat):(s.extract a s.size).data.toList=s.data.toList.drop a:=by
 rw [list_cut,List.take_of_length_le (by rw [size_list];exact Nat.le_refl _)]
end Go.Proofs.YtnaehhpikhlppaaGreatDoor

namespace Go.Proofs.YtnaehhpikhlppaaGreatDoor.LexS
abbrev Bytes:=List UInt8
structure Tok where
 kind:Nat
 s:Bytes
 n:Int
 at_:Nat
 deriving DecidableEq
def letterB (c:UInt8):Bool:=decide (97≤c.toNat) && decide (c.toNat≤122)
def digitB (c:UInt8):Bool:=decide (48≤c.toNat) && decide (c.toNat≤57)
def innerB (c:UInt8):Bool:=letterB c || digitB c || decide (c.toNat=95)
def blankB (c:UInt8):Bool:=decide (c.toNat=32) || decide (c.toNat=9) || decide (c.toNat=10) || decide (c.toNat=13)
def while_ (p:UInt8→Bool):Bytes→Nat
 | []=>0
 | c::r=>if p c then while_ p r+1 else 0
theorem while_le (p:UInt8→Bool) (l:Bytes):while_ p l≤l.length:=by
 induction l with
 | nil=>exact Nat.le_refl _
 | cons c r ih=>unfold while_;split<;>simp<;>omega
def textFrom:Bytes→Nat→Bytes→Option (Bytes×Nat)
 | _,_,[]=>none
 | acc,i,c::r =>
   if c.toNat=34 then some (acc,i+1)
   else if c.toNat=92 then
    match r with
    | []=>none
    | d::r'=>if d.toNat=34∨d.toNat=92 then textFrom (acc++[d]) (i+2) r' else none
   else textFrom (acc++[c]) (i+1) r
def textS (l:Bytes):Option (Bytes×Nat) :=
 match textFrom [] 1 (l.drop 1) with
 | some (t,n)=>if t.length≤64 then some (t,n) else none
 | none=>none
def numLen (l:Bytes):Nat:=if l.head?.map (·.toNat)=some 45 then 1+while_ digitB (l.drop 1) else while_ digitB l
def numberS (l:Bytes):Option (Int×Nat) :=
 match Lib.atoiAll (l.take (numLen l)) with
 | .ok v=>if Lib.itoa v=l.take (numLen l)∧¬ (l[numLen l]?.map innerB=some true) then some (v,numLen l) else none
 | _=>none
def signLen:Bytes→Nat
 | []=>0
 | c::r =>
   if (r.head?.map (·.toNat)=some 61)∧(c.toNat=33∨c.toNat=60∨c.toNat=62) then 2
   else if c.toNat=124∨c.toNat=44∨c.toNat=40∨c.toNat=41∨c.toNat=58∨c.toNat=61∨c.toNat=60∨c.toNat=62 then 1 else 0
def noTok:Tok:=⟨0,[],0,0⟩
def oneS (l:Bytes):Tok×Nat :=
 match l with
 | []=>(noTok,0)
 | c::r =>
   if letterB c then (if while_ innerB l≤24 then (⟨1,l.take (while_ innerB l),0,0⟩,while_ innerB l) else (noTok,0))
   else if c.toNat=34 then (match textS l with | some (t,n)=>(⟨3,t,0,0⟩,n) | none=>(noTok,0))
   else if digitB c∨(c.toNat=45∧r.head?.map digitB=some true) then (match numberS l with | some (v,n)=>(⟨2,[],v,0⟩,n) | none=>(noTok,0))
   else if signLen l=0 then (noTok,0) else (⟨4,l.take (signLen l),0,0⟩,signLen l)
def lexGo:Nat→Nat→Bytes→List Tok→List Tok×Nat×Nat
 | 0,_,_,acc=>(acc,0,0)
 | k+1,at_,rest,acc =>
   match rest with
   | []=>(acc,0,0)
   | c::r =>
     if blankB c then lexGo k (at_+1) r acc
     else if (oneS rest).2=0 then ([],at_,110)
     else lexGo k (at_+(oneS rest).2) (rest.drop (oneS rest).2) (acc++[{ (oneS rest).1 with at_:=at_}])
def lexS (l:Bytes):List Tok×Nat×Nat:=if l.length>2048 then ([],0,2) else lexGo (l.length+1) 0 l []
theorem textFrom_bd:∀ (r acc:Bytes) (i:Nat) (t:Bytes) (n:Nat),textFrom acc i r=some (t,n)→i+1≤n∧n≤i+r.length∧t.length+i+1≤acc.length+n:=by
 intro r
 induction hm:r.length using Nat.strongRecOn generalizing r with
 | _ m ih =>
   intro acc i t n h
   match r with
   | []=>simp [textFrom] at h
   | c::r =>
     unfold textFrom at h
     simp only [List.length_cons] at hm
     split at h
     ·simp only [Option.some.injEq,Prod.mk.injEq] at h
      obtain ⟨rfl,rfl⟩:=h
      simp
      omega
     ·split at h
      ·split at h
       ·cases h
       ·rename_i d r'
        simp only [List.length_cons] at hm
        split at h
        ·have:=ih r'.length (by omega) r' rfl _ _ _ _ h
         simp only [List.length_append,List.length_cons,List.length_nil] at this ⊢
         omega
        ·cases h
      ·have:=ih r.length (by omega) r rfl _ _ _ _ h
       simp only [List.length_append,List.length_cons,List.length_nil] at this ⊢
       omega
theorem textS_bd {l t:Bytes} {n:Nat} (hl:l ≠ []) (h:textS l=some (t,n)):2≤n∧n≤l.length∧t.length≤64:=by
 unfold textS at h
 split at h
 ·rename_i t' n' h'
  split at h
  ·simp only [Option.some.injEq,Prod.mk.injEq] at h
   obtain ⟨rfl,rfl⟩:=h
   have:=textFrom_bd _ _ _ _ _ h'
   have hp:0<l.length:=List.length_pos_iff.2 hl
   simp only [List.length_drop] at this
   refine ⟨by omega,by omega,by assumption⟩
  ·cases h
 ·cases h
theorem numLen_le (l:Bytes):numLen l≤l.length:=by
 unfold numLen
 split
 ·rename_i h
  match l with
  | []=>simp at h
  | c::r =>
    have:=while_le digitB r
    simp
    omega
 ·exact while_le _ _
theorem signLen_le (l:Bytes):signLen l≤l.length∧signLen l≤2:=by
 match l with
 | []=>simp [signLen]
 | c::r =>
   simp only [signLen]
   split
   ·rename_i h
    match r with
    | []=>simp at h
    | d::r=>simp
   ·split<;>simp
theorem oneS_le (l:Bytes):(oneS l).2≤l.length:=by
 unfold oneS
 split
 ·exact Nat.zero_le _
 ·rename_i c r
  split
  ·split
   ·exact while_le _ _
   ·exact Nat.zero_le _
  ·split
   ·split
    ·rename_i t n h;exact (textS_bd (by simp) h).2.1
    ·exact Nat.zero_le _
   ·split
    ·split
     ·rename_i v n h
      unfold numberS at h
      split at h
      ·split at h
       ·simp only [Option.some.injEq,Prod.mk.injEq] at h
        obtain ⟨_,rfl⟩:=h
        exact numLen_le _
       ·cases h
      ·cases h
     ·exact Nat.zero_le _
    ·split
     ·exact Nat.zero_le _
     ·exact (signLen_le (c::r)).1
end Go.Proofs.YtnaehhpikhlppaaGreatDoor.LexS

namespace Go.Proofs.YtnaehhpikhlppaaGreatDoor
open Go.RowKit LexS
theorem letter_any (c:UInt8) (w:World):Calls Tryz.prog 133 #[.int .u8 (c.toNat:Int)] w fun e w'=>e=.returned (.bool (letterB c))∧w=w':=by
 unfold letterB
 by_cases h:97≤c.toNat
 ·have h':(97:Int)≤c.toNat:=by omega
  rw [decide_eq_true h,Bool.true_and]
  go_enter Tryz.func133,Tryz.ntmps133
  go_wp2
  go_ret
  exact ⟨by simp;omega,rfl⟩
 ·have h':(c.toNat:Int)<97:=by omega
  rw [decide_eq_false h,Bool.false_and]
  go_enter Tryz.func133,Tryz.ntmps133
  go_wp2
  go_ret
  exact ⟨by simp,rfl⟩
theorem digit_any (c:UInt8) (w:World):Calls Tryz.prog 137 #[.int .u8 (c.toNat:Int)] w fun e w'=>e=.returned (.bool (digitB c))∧w=w':=by
 unfold digitB
 by_cases h:48≤c.toNat
 ·have h':(48:Int)≤c.toNat:=by omega
  rw [decide_eq_true h,Bool.true_and]
  go_enter Tryz.func137,Tryz.ntmps137
  go_wp2
  go_ret
  exact ⟨by simp;omega,rfl⟩
 ·have h':(c.toNat:Int)<48:=by omega
  rw [decide_eq_false h,Bool.false_and]
  go_enter Tryz.func137,Tryz.ntmps137
  go_wp2
  go_ret
  exact ⟨by simp,rfl⟩
theorem inner_any (c:UInt8) (w:World):Calls Tryz.prog 135 #[.int .u8 (c.toNat:Int)] w fun e w'=>e=.returned (.bool (innerB c))∧w=w':=by
 have h1:=letter_any c
 have h2:=digit_any c
 unfold innerB
 cases hl:letterB c
 ·rw [hl] at h1
  cases hd:digitB c
  ·rw [hd] at h2
   by_cases h95:c.toNat=95
   ·have g:((c.toNat:Int) == 95)=true:=by rw [h95];rfl
    rw [decide_eq_true h95]
    clear h95
    go_enter Tryz.func135,Tryz.ntmps135
    go_wp2_with fail
    refine (h1 _).mono ?_
    rintro e w1 ⟨rfl,rfl⟩
    go_wp2_with fail
    refine (h2 _).mono ?_
    rintro e w1 ⟨rfl,rfl⟩
    go_wp2_with fail
    go_ret
    exact ⟨rfl,rfl⟩
   ·have g:((c.toNat:Int) == 95)=false:=by rw [beq_eq_false_iff_ne];omega
    rw [decide_eq_false h95]
    clear h95
    go_enter Tryz.func135,Tryz.ntmps135
    go_wp2_with fail
    refine (h1 _).mono ?_
    rintro e w1 ⟨rfl,rfl⟩
    go_wp2_with fail
    refine (h2 _).mono ?_
    rintro e w1 ⟨rfl,rfl⟩
    go_wp2_with fail
    go_ret
    exact ⟨rfl,rfl⟩
  ·rw [hd] at h2
   go_enter Tryz.func135,Tryz.ntmps135
   go_wp2_with fail
   refine (h1 _).mono ?_
   rintro e w1 ⟨rfl,rfl⟩
   go_wp2_with fail
   refine (h2 _).mono ?_
   rintro e w1 ⟨rfl,rfl⟩
   go_wp2_with fail
   go_ret
   exact ⟨rfl,rfl⟩
 ·rw [hl] at h1
  go_enter Tryz.func135,Tryz.ntmps135
  go_wp2_with fail
  refine (h1 _).mono ?_
  rintro e w1 ⟨rfl,rfl⟩
  go_wp2_with fail
  go_ret
  exact ⟨rfl,rfl⟩
theorem rletter_any (c:UInt8) (w:World):Calls Tryz.prog 60 #[.int .u8 (c.toNat:Int)] w fun e w'=>e=.returned (.bool (letterB c))∧w=w':=by
 unfold letterB
 by_cases h:97≤c.toNat
 ·have h':(97:Int)≤c.toNat:=by omega
  rw [decide_eq_true h,Bool.true_and]
  go_enter Tryz.func60,Tryz.ntmps60
  go_wp2
  go_ret
  exact ⟨by simp;omega,rfl⟩
 ·have h':(c.toNat:Int)<97:=by omega
  rw [decide_eq_false h,Bool.false_and]
  go_enter Tryz.func60,Tryz.ntmps60
  go_wp2
  go_ret
  exact ⟨by simp,rfl⟩
theorem rdigit_any (c:UInt8) (w:World):Calls Tryz.prog 63 #[.int .u8 (c.toNat:Int)] w fun e w'=>e=.returned (.bool (digitB c))∧w=w':=by
 unfold digitB
 by_cases h:48≤c.toNat
 ·have h':(48:Int)≤c.toNat:=by omega
  rw [decide_eq_true h,Bool.true_and]
  go_enter Tryz.func63,Tryz.ntmps63
  go_wp2
  go_ret
  exact ⟨by simp;omega,rfl⟩
 ·have h':(c.toNat:Int)<48:=by omega
  rw [decide_eq_false h,Bool.false_and]
  go_enter Tryz.func63,Tryz.ntmps63
  go_wp2
  go_ret
  exact ⟨by simp,rfl⟩
theorem rinner_any (c:UInt8) (w:World):Calls Tryz.prog 61 #[.int .u8 (c.toNat:Int)] w fun e w'=>e=.returned (.bool (innerB c))∧w=w':=by
 have h1:=rletter_any c
 have h2:=rdigit_any c
 unfold innerB
 cases hl:letterB c
 ·rw [hl] at h1
  cases hd:digitB c
  ·rw [hd] at h2
   by_cases h95:c.toNat=95
   ·have g:((c.toNat:Int) == 95)=true:=by rw [h95];rfl
    rw [decide_eq_true h95]
    clear h95
    go_enter Tryz.func61,Tryz.ntmps61
    go_wp2_with fail
    refine (h1 _).mono ?_
    rintro e w1 ⟨rfl,rfl⟩
    go_wp2_with fail
    refine (h2 _).mono ?_
    rintro e w1 ⟨rfl,rfl⟩
    go_wp2_with fail
    go_ret
    exact ⟨rfl,rfl⟩
   ·have g:((c.toNat:Int) == 95)=false:=by rw [beq_eq_false_iff_ne];omega
    rw [decide_eq_false h95]
    clear h95
    go_enter Tryz.func61,Tryz.ntmps61
    go_wp2_with fail
    refine (h1 _).mono ?_
    rintro e w1 ⟨rfl,rfl⟩
    go_wp2_with fail
    refine (h2 _).mono ?_
    rintro e w1 ⟨rfl,rfl⟩
    go_wp2_with fail
    go_ret
    exact ⟨rfl,rfl⟩
  ·rw [hd] at h2
   go_enter Tryz.func61,Tryz.ntmps61
   go_wp2_with fail
   refine (h1 _).mono ?_
   rintro e w1 ⟨rfl,rfl⟩
   go_wp2_with fail
   refine (h2 _).mono ?_
   rintro e w1 ⟨rfl,rfl⟩
   go_wp2_with fail
   go_ret
   exact ⟨rfl,rfl⟩
 ·rw [hl] at h1
  go_enter Tryz.func61,Tryz.ntmps61
  go_wp2_with fail
  refine (h1 _).mono ?_
  rintro e w1 ⟨rfl,rfl⟩
  go_wp2_with fail
  go_ret
  exact ⟨rfl,rfl⟩
theorem while_step (p:UInt8→Bool):∀ (k:Nat) (l:Bytes),k≤l.length→(∀ i,i<k→l[i]?.map p=some true)→while_ p l=k+while_ p (l.drop k):=by
 intro k
 induction k with
 | zero=>intro l _ _;simp
 | succ k ih =>
   intro l hl h
   match l with
   | []=>simp at hl
   | c::r =>
     have h0:=h 0 (by omega)
     simp only [List.getElem?_cons_zero,Option.map_some,Option.some.injEq] at h0
     simp only [while_,h0,if_true,List.drop_succ_cons]
     have:=ih r (by simpa using hl) (fun i hi=>by have:=h (i+1) (by omega);simpa using this)
     omega
theorem while_digit (s:ByteArray) (hs:s.size≤140737488351232) (w:World) :
 Calls Tryz.prog 134 #[.string s,.func (.func 137) #[] #[]] w fun e w'=>e=.returned (.int .i64 (while_ digitB s.data.toList:Nat))∧w=w':=by
 go_enter Tryz.func134,Tryz.ntmps134
 go_wp2
 go_loop [8] (fun c => ∃ k:Nat,k≤s.size∧c=.int .i64 k∧∀ i,i<k→s.data.toList[i]?.map digitB=some true) (fun c=>s.size-(intOf c).toNat)
 case atStart=>exact ⟨0,by omega,rfl,fun i hi=>by omega⟩
 case round =>
  obtain ⟨k,hk,rfl,hall⟩:=hrel
  have hst:=while_step digitB k s.data.toList (by rw [size_list];exact hk) hall
  match hd:s.data.toList.drop k with
  | [] =>
    have he:=at_end hd
    rw [hd] at hst
    have HS:=Lib.hid hst
    clear hst hall hd
    go_wp2
    go_ret
    exact ⟨by rw [HS.out];simp [while_];omega,rfl⟩
  | c::r =>
    obtain ⟨hlt,hc,hr⟩:=byte_at hd
    rw [hd] at hst
    have hall':digitB c=true→∀ i,i<k+1→s.data.toList[i]?.map digitB=some true:=fun hb i hi=>by
     rcases Nat.lt_or_ge i k with h | h
     ·exact hall i h
     ·obtain rfl:i=k:=by omega
      rw [← hc] at hb
      rw [List.getElem?_eq_getElem (by rw [size_list];exact hlt)]
      exact congrArg some hb
    have HA:=Lib.hid hall'
    have HS:=Lib.hid hst
    have hcall:=digit_any c
    clear hst hall hd hall' hr
    cases hb:digitB c
    ·rw [hb] at hcall
     go_wp2_with fail
     refine (hcall _).mono ?_
     rintro e w1 ⟨rfl,rfl⟩
     go_wp2_with fail
     go_ret
     exact ⟨by rw [HS.out];simp [while_,hb],rfl⟩
    ·rw [hb] at hcall
     go_wp2_with fail
     refine (hcall _).mono ?_
     rintro e w1 ⟨rfl,rfl⟩
     go_wp2_with fail
     exact ⟨⟨k+1,by omega,rfl,HA.out hb⟩,by simp [intOf];omega⟩
theorem while_inner (s:ByteArray) (hs:s.size≤140737488351232) (w:World) :
 Calls Tryz.prog 134 #[.string s,.func (.func 135) #[] #[]] w fun e w'=>e=.returned (.int .i64 (while_ innerB s.data.toList:Nat))∧w=w':=by
 go_enter Tryz.func134,Tryz.ntmps134
 go_wp2
 go_loop [8] (fun c => ∃ k:Nat,k≤s.size∧c=.int .i64 k∧∀ i,i<k→s.data.toList[i]?.map innerB=some true) (fun c=>s.size-(intOf c).toNat)
 case atStart=>exact ⟨0,by omega,rfl,fun i hi=>by omega⟩
 case round =>
  obtain ⟨k,hk,rfl,hall⟩:=hrel
  have hst:=while_step innerB k s.data.toList (by rw [size_list];exact hk) hall
  match hd:s.data.toList.drop k with
  | [] =>
    have he:=at_end hd
    rw [hd] at hst
    have HS:=Lib.hid hst
    clear hst hall hd
    go_wp2
    go_ret
    exact ⟨by rw [HS.out];simp [while_];omega,rfl⟩
  | c::r =>
    obtain ⟨hlt,hc,hr⟩:=byte_at hd
    rw [hd] at hst
    have hall':innerB c=true→∀ i,i<k+1→s.data.toList[i]?.map innerB=some true:=fun hb i hi=>by
     rcases Nat.lt_or_ge i k with h | h
     ·exact hall i h
     ·obtain rfl:i=k:=by omega
      rw [← hc] at hb
      rw [List.getElem?_eq_getElem (by rw [size_list];exact hlt)]
      exact congrArg some hb
    have HA:=Lib.hid hall'
    have HS:=Lib.hid hst
    have hcall:=inner_any c
    clear hst hall hd hall' hr
    cases hb:innerB c
    ·rw [hb] at hcall
     go_wp2_with fail
     refine (hcall _).mono ?_
     rintro e w1 ⟨rfl,rfl⟩
     go_wp2_with fail
     go_ret
     exact ⟨by rw [HS.out];simp [while_,hb],rfl⟩
    ·rw [hb] at hcall
     go_wp2_with fail
     refine (hcall _).mono ?_
     rintro e w1 ⟨rfl,rfl⟩
     go_wp2_with fail
     exact ⟨⟨k+1,by omega,rfl,HA.out hb⟩,by simp [intOf];omega⟩
end Go.Proofs.YtnaehhpikhlppaaGreatDoor

namespace Go.Proofs.YtnaehhpikhlppaaGreatDoor
open Go.RowKit
theorem sizeBuilder:∃ j,Tryz.prog.info? 164=some j∧j.size=2:=by
 have h:(Tryz.prog.info? 164).map (·.size)=some 2:=by kernel_rfl
 obtain ⟨j,hj,hz⟩:=Option.map_eq_some_iff.1 h
 exact ⟨j,hj,hz⟩
theorem liesBuilder:liesAt Tryz.prog Tryz.prog.depth 164 (2 / Tryz.prog.cellsOf 164) 0 164 1=true:=by kernel_rfl
theorem infoByte:(Tryz.prog.info? 5).map (fun i=>(i.zero,i.size,i.bytes))=some (some (.int .u8 0),1,1):=by kernel_rfl
theorem check_used (b:Nat) (w:World) (h0:w.cell? ⟨b,0,none⟩=some (.pointer (some ⟨b,0,none⟩))) :
 Calls Tryz.prog 163 #[.pointer (some ⟨b,0,none⟩)] w fun e w'=>e=.returned (.tuple #[])∧w'=w:=by
 obtain ⟨j,hj,_⟩:=sizeBuilder
 go_enter Tryz.func163,Tryz.ntmps163
 go_wp2
 rw [Lib.run_neq_ptr_same w _ Tryz.underlying162 hj]
 go_wp2
 go_end0
 exact ⟨rfl,rfl⟩
theorem check_fresh (b:Nat) (w:World) (h0:w.cell? ⟨b,0,none⟩=some (.pointer none)) (hsh:w.shape? b=some (164,2)) (hfz:w.frozen? ⟨b,0,none⟩=false) :
 Calls Tryz.prog 163 #[.pointer (some ⟨b,0,none⟩)] w fun e w'=>e=.returned (.tuple #[])∧w'=w.setCell ⟨b,0,none⟩ (.pointer (some ⟨b,0,none⟩)):=by
 obtain ⟨j,hj,hjs⟩:=sizeBuilder
 go_enter Tryz.func163,Tryz.ntmps163
 go_wp2
 rw [Lib.run_to_unsafe w ⟨b,0,none⟩ Tryz.underlying162 Tryz.underlying199 hj (by rw [hjs];decide) hsh (Nat.zero_lt_succ 1)]
 simp only [Result.andThen]
 rw [Oper.upon_value]
 go_wp2
 rw [run_callFunc_extern Tryz.func182 (by kernel_rfl) (by kernel_rfl) (by kernel_rfl) (e:=Extern.AbiNoEscape.same) (by kernel_rfl)]
 rw [Lib.run_noEscape]
 simp only [Result.andThen]
 rw [Oper.upon_value]
 go_wp2
 rw [Lib.run_from_unsafe w ⟨b,0,none⟩ Tryz.underlying199 Tryz.underlying162 hj hsh liesBuilder]
 simp only [Result.andThen]
 rw [Oper.upon_value]
 go_wp2
 go_end0
 exact ⟨rfl,rfl⟩
theorem check_any (B b:Nat) (bs:List Value) (w:World) (h:Lib.IsBuilder 164 5 B b bs w) :
 Calls Tryz.prog 163 #[.pointer (some ⟨b,0,none⟩)] w fun e w'=>e=.returned (.tuple #[])∧(Lib.BuilderAt 164 5 B b (.pointer (some ⟨b,0,none⟩)) bs w'∧Below B w w'):=by
 rcases h with h | h
 ·refine (check_fresh b w h.cell0 h.shape h.frozen0).mono ?_
  rintro e w' ⟨rfl,rfl⟩
  exact ⟨rfl,h.used _,(Below.refl B w).setCell (p:=⟨b,0,none⟩) h.1 _⟩
 ·refine (check_used b w h.cell0).mono ?_
  rintro e w' ⟨rfl,rfl⟩
  exact ⟨rfl,h,Below.refl B _⟩
theorem writeByte_any (B b:Nat) (bs:List Value) (c:Int) (w:World) (h:Lib.IsBuilder 164 5 B b bs w) (hlen:bs.length+1≤140737488355328) (hBw:B≤w.heap.size) :
 Calls Tryz.prog 167 #[.pointer (some ⟨b,0,none⟩),.int .u8 c] w fun e w'=>e=.returned .nilIface∧(Lib.BuilderAt 164 5 B b (.pointer (some ⟨b,0,none⟩)) (bs++[.int .u8 c]) w'∧Below B w w'):=by
 obtain ⟨i0,hi,hz0,hz1,hz2⟩:=info_parts infoByte
 go_enter Tryz.func167,Tryz.ntmps167
 go_wp2_with (go_at_call 163;refine (check_any B b bs _ h).mono ?_)
 rintro e w1 ⟨rfl,h1,hb1⟩
 obtain ⟨hB,v,hbk,hown,hne⟩:=h1
 have c0:w1.cell? ⟨b,0,none⟩=some (.pointer (some ⟨b,0,none⟩)):=by rw [Lib.cell_of_heap hbk];rfl
 have c1:w1.cell? ⟨b,1,none⟩=some v:=by rw [Lib.cell_of_heap hbk];rfl
 go_wp2_with (at_builtin;refine wpList_append_own _ rfl _ _ 107 rfl B 5 i0 (.int .u8 0) 1 1 Tryz.underlying107 hi hz0 hz1 hz2 rfl (by decide) _ _ _ rfl (hown.alloc _) ⟨w1.heap.size,0,none⟩ 1 1 [.int .u8 c] rfl rfl ?c1 ?c2 ?c3 ?c4 ?c5 ?_)
 case c1 =>
  intro j u hj
  match j,hj with
  | 0,hj=>simp at hj;subst hj;simp [Addr.add]
 case c2=>intro u hu;simp at hu;subst hu;rfl
 case c3=>unfold maxLen;omega
 case c4=>omega
 case c5=>have:=hb1.size;simp;omega
 intro v' w2 hown' hgrow _
 have hlt:b<w1.heap.size:=by
  rcases Nat.lt_or_ge b w1.heap.size with h' | h'
  ·exact h'
  ·simp [Array.getElem?_eq_none h'] at hbk
 have hb2:w2.heap[b]?=some (.cells #[.pointer (some ⟨b,0,none⟩),v] 164 (0,0)):=by
  rw [hgrow.block b (by simp;omega) (fun e=>hne e.symm),Lib.alloc_old w1 _ b hlt]
  exact hbk
 have d0:w2.cell? ⟨b,0,none⟩=some (.pointer (some ⟨b,0,none⟩)):=by rw [Lib.cell_of_heap hb2];rfl
 have d1:w2.cell? ⟨b,1,none⟩=some v:=by rw [Lib.cell_of_heap hb2];rfl
 have f1:w2.frozen? ⟨b,1,none⟩=false:=Lib.frozen_of_heap hb2 1
 obtain ⟨g,cap,rfl⟩:∃ g cap,v'=.slice (some ⟨g,0,none⟩) (bs.length+1) cap:=by
  rcases hown'.2 with ⟨_,h0⟩ | ⟨g,cap,cur,hv,_⟩
  ·omega
  ·exact ⟨g,cap,hv⟩
 go_wp2
 go_ret
 refine ⟨rfl,?_,?_⟩
 ·exact Lib.BuilderAt.put (T:=164) (e:=5) hB hb2 (bs':=bs++[.int .u8 c]) (by simpa using hown') (by decide)
 ·exact ((hb1.alloc (by have:=hb1.size;omega) _).grown hgrow (by have:=hb1.size;simp;omega) (fun k hk=>(hown.lt k hk).1)).setCell (p:=⟨b,1,none⟩) hB _
end Go.Proofs.YtnaehhpikhlppaaGreatDoor
