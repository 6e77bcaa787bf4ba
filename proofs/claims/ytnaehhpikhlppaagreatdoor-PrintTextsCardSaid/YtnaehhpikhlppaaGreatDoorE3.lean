/- Several texts of the proof, joined. -/
import Derived.Test.YtnaehhpikhlppaaGreatDoorE1
import Derived.Test.YtnaehhpikhlppaaGreatDoorE2
import Derived.Lib.UnsafeStr
import Derived.WalkSmall
set_option maxHeartbeats 4000000
set_option maxRecDepth 100000
set_option linter.unusedVariables false
set_option linter.unusedSimpArgs false
namespace Go.Proofs.YtnaehhpikhlppaaGreatDoor
open Go.RowKit LexS
def tokA (t:Tok):Array Value:=#[.int .i64 (t.kind:Int),.string ⟨t.s.toArray⟩,.int .i64 t.n,.int .i64 (t.at_:Int)]
def tokV (t:Tok):Value:=.agg (tokA t)
theorem tokV_eq (t:Tok):tokV t=.agg #[.int .i64 (t.kind:Int),.string ⟨t.s.toArray⟩,.int .i64 t.n,.int .i64 (t.at_:Int)]:=rfl
def textT (l:Bytes):Tok×Nat:=match textS l with
 | some (t,n)=>(⟨3,t,0,0⟩,n)
 | none=>(noTok,0)
def textO (o:Option (Bytes×Nat)):Tok×Nat:=match o with
 | some (t,n)=>if t.length≤64 then (⟨3,t,0,0⟩,n) else (noTok,0)
 | none=>(noTok,0)
theorem textT_eq (l:Bytes):textT l=textO (textFrom [] 1 (l.drop 1)):=by
 unfold textT textS textO
 match textFrom [] 1 (l.drop 1) with
 | none=>rfl
 | some (t,n) =>
   by_cases h:t.length≤64
   ·simp only [if_pos h]
   ·simp only [if_neg h]
theorem blk_tok {w:World} {g:Nat} {t:TypeId} {x:Tok} (h:Blk w g t (tokA x)) :
 w.cell? ⟨g,0,none⟩=some (.int .i64 (x.kind:Int))∧w.cell? ⟨g,1,none⟩=some (.string ⟨x.s.toArray⟩)∧w.cell? ⟨g,2,none⟩=some (.int .i64 x.n)∧w.cell? ⟨g,3,none⟩=some (.int .i64 (x.at_:Int)) :=
 ⟨h.cell 0,h.cell 1,h.cell 2,h.cell 3⟩
theorem free_tok {w:World} {g:Nat} {t:TypeId} {x:Tok} (h:Blk w g t (tokA x)) :
 w.frozen? ⟨g,0,none⟩=false∧w.frozen? ⟨g,1,none⟩=false∧w.frozen? ⟨g,2,none⟩=false∧w.frozen? ⟨g,3,none⟩=false :=
 ⟨h.free 0,h.free 1,h.free 2,h.free 3⟩
theorem put_tok {w:World} {g:Nat} {t:TypeId} {x y:Tok} (h:Blk w g t (tokA x)) :
 Blk ((((w.setCell ⟨g,0,none⟩ (.int .i64 (y.kind:Int))).setCell ⟨g,1,none⟩ (.string ⟨y.s.toArray⟩)).setCell ⟨g,2,none⟩ (.int .i64 y.n)).setCell ⟨g,3,none⟩ (.int .i64 (y.at_:Int))) g t (tokA y) :=
 (((h.put 0 _).put 1 _).put 2 _).put 3 _
theorem res_tok {f:Func} {r q g:Nat} {tmps:Array Value} {w:World} {x:Tok} {n:Int} (hf:f.results=#[.cell r 65,.tmp q]) (ht:tmps[r]?.getD undef=.pointer (some ⟨g,0,none⟩)) (hq:tmps[q]?.getD undef=.int .i64 n)
 (h:Blk w g 65 (tokA x)):(results f tmps).run Tryz.prog w=.ok (.tuple #[tokV x,.int .i64 n]) w:=by
 obtain ⟨h0,h1,h2,h3⟩:=blk_tok h
 simp [results,hf,go_sem,ht,hq,h0,h1,h2,h3,tokV,tokA]
theorem bcells_len (l:Bytes):(Lib.byteCells l).length=l.length:=by simp [Lib.byteCells]
theorem bcells_app (l:Bytes) (c:UInt8):Lib.byteCells l++[.int .u8 (c.toNat:Int)]=Lib.byteCells (l++[c]):=by simp [Lib.byteCells]
theorem len_b {g b:Nat} {acc:Bytes} {w:World} (h:Lib.IsBuilder 164 5 g b (Lib.byteCells acc) w) :
 Calls Tryz.prog 166 #[.pointer (some ⟨b,0,none⟩)] w fun e w'=>e=.returned (.int .i64 (acc.length:Int))∧w=w':=by
 refine (Tryz.Builder_Len g b _ w h).mono ?_
 rintro e w' ⟨rfl,rfl⟩
 exact ⟨by rw [bcells_len],rfl⟩
theorem write_b {g b:Nat} {acc:Bytes} {w:World} (c:UInt8) (h:Lib.IsBuilder 164 5 g b (Lib.byteCells acc) w) (hl:acc.length≤140737488351232) (hg:g≤w.heap.size) :
 Calls Tryz.prog 167 #[.pointer (some ⟨b,0,none⟩),.int .u8 (c.toNat:Int)] w fun e w'=>e=.returned .nilIface∧Lib.IsBuilder 164 5 g b (Lib.byteCells (acc++[c])) w'∧Below g w w':=by
 refine (writeByte_any g b _ (c.toNat:Int) w h (by rw [bcells_len];omega) hg).mono ?_
 rintro e w' ⟨rfl,h1,h2⟩
 exact ⟨rfl,.inr (by rw [bcells_app] at h1;exact h1),h2⟩
theorem own_nil_ (w:World) (b:Nat):w.ownsRow b 5 1 (.slice none 0 0) (Lib.byteCells ([]:Bytes)).length (Lib.byteCells ([]:Bytes)):=⟨rfl,.inl ⟨rfl,rfl⟩⟩
def TextRel (s:ByteArray) (w:World) (i:Nat) (acc:Bytes) (wr:World):Prop :=
 1≤i∧i≤s.size∧acc.length≤i∧textFrom [] 1 (s.data.toList.drop 1)=textFrom acc i (s.data.toList.drop i) ∧
 Lib.IsBuilder 164 5 (w.heap.size+1) (w.heap.size+1) (Lib.byteCells acc) wr∧Blk wr w.heap.size 65 (tokA noTok)∧Below w.heap.size w wr∧w.heap.size+1≤wr.heap.size
theorem textFrom_cons (acc:Bytes) (i:Nat) (c:UInt8) (r:Bytes):textFrom acc i (c::r) =
 if c.toNat=34 then some (acc,i+1)
 else if c.toNat=92 then
  match r with
  | []=>none
  | d::r'=>if d.toNat=34∨d.toNat=92 then textFrom (acc++[d]) (i+2) r' else none
 else textFrom (acc++[c]) (i+1) r:=by
 cases r<;>simp only [textFrom]
theorem text_fail {s:ByteArray} {w wr:World} {i:Nat} {acc:Bytes} (h:TextRel s w i acc wr) :
 Blk ((((wr.setCell ⟨w.heap.size,0,none⟩ (.int .i64 0)).setCell ⟨w.heap.size,1,none⟩ (.string ⟨#[]⟩)).setCell ⟨w.heap.size,2,none⟩ (.int .i64 0)).setCell ⟨w.heap.size,3,none⟩ (.int .i64 0)) w.heap.size 65 (tokA noTok) ∧
 Below w.heap.size w ((((wr.setCell ⟨w.heap.size,0,none⟩ (.int .i64 0)).setCell ⟨w.heap.size,1,none⟩ (.string ⟨#[]⟩)).setCell ⟨w.heap.size,2,none⟩ (.int .i64 0)).setCell ⟨w.heap.size,3,none⟩ (.int .i64 0)) :=
 ⟨put_tok (x:=noTok) (y:=noTok) h.2.2.2.2.2.1,(((h.2.2.2.2.2.2.1.setCell (Nat.le_refl _) _).setCell (Nat.le_refl _) _).setCell (Nat.le_refl _) _).setCell (Nat.le_refl _) _⟩
theorem text_any (s:ByteArray) (hs:s.size≤140737488351232) (h1:1≤s.size) (w:World) :
 Calls Tryz.prog 136 #[.string s] w fun e w'=>e=.returned (.tuple #[tokV (textT s.data.toList).1,.int .i64 ((textT s.data.toList).2:Int)])∧Below w.heap.size w w':=by
 rw [textT_eq]
 go_enter Tryz.func136,Tryz.ntmps136
 go_wp2
 go_loopw [5] (fun c wr => ∃ i acc,c=.int .i64 (i:Nat)∧TextRel s w i acc wr) (fun c _=>s.size-(intOf c).toNat)
 case atStart =>
  refine ⟨1,[],rfl,Nat.le_refl _,h1,by simp,rfl,?_,(Blk.new w 65 (tokA noTok)).alloc _,((Below.refl _ _).alloc (Nat.le_refl _) _).alloc (by simp) _,by simp⟩
  refine .inl ⟨Nat.le_refl _,.slice none 0 0,?_,own_nil_ _ _,by simp [Value.ownBlock]⟩
  have h:=Blk.new (w.alloc (.cells (tokA noTok) 65)) 164 #[.pointer none,.slice none 0 0]
  rw [World.size_alloc] at h
  exact h
 case round =>
  obtain ⟨i,acc,rfl,hrel'⟩:=hrel
  have HF:=Lib.hid (text_fail hrel')
  obtain ⟨hi1,his,hacc,heq,hbu,hr,hb,hsz⟩:=hrel'
  have HE:=Lib.hid heq
  clear heq
  match hd:s.data.toList.drop i with
  | [] =>
    have he:=at_end hd
    have hend:textO (textFrom [] 1 (s.data.toList.drop 1))=(noTok,0):=by rw [HE.out,hd];simp [textFrom,textO]
    have HD:=Lib.hid hend
    clear hd hend
    obtain ⟨r0,r1,r2,r3⟩:=blk_tok hr
    obtain ⟨f0,f1,f2,f3⟩:=free_tok hr
    go_wp2
    exact bodyPost_ret (v:=.tuple #[tokV noTok,.int .i64 0]) (res_tok Tryz.results136 rfl rfl HF.out.1) rfl ⟨by rw [HD.out];rfl,HF.out.2⟩
  | c::r =>
    obtain ⟨hlt,hc,hr2⟩:=byte_at hd
    have hcons:=textFrom_cons acc i c r
    rw [← hd,← HE.out] at hcons
    by_cases h34:c.toNat=34
    ·rw [if_pos h34] at hcons
     have g34:((c.toNat:Int) == 34)=true:=by rw [h34];rfl
     have hlen:=len_b hbu
     by_cases h64:acc.length≤64
     ·have hstr:=Tryz.Builder_String_any _ _ acc _ hbu hsz
      have hend:textO (textFrom [] 1 (s.data.toList.drop 1))=(⟨3,acc,0,0⟩,i+1):=by rw [hcons];simp [textO,h64]
      have HD:=Lib.hid hend
      clear hcons hend hd h34 hr2
      have h64':(acc.length:Int)≤64:=by omega
      go_wp2_with fail
      refine hlen.mono ?_
      rintro e w1 ⟨rfl,rfl⟩
      go_wp2_with fail
      refine hstr.mono ?_
      rintro e w1 ⟨rfl,hb1⟩
      have hr1:=hr.below hb1 (by omega)
      have hb2:Below w.heap.size w w1:=hb.trans (hb1.mono (by omega))
      obtain ⟨r0,r1,r2,r3⟩:=blk_tok hr1
      obtain ⟨f0,f1,f2,f3⟩:=free_tok hr1
      clear hbu hr hb hb1 hlen hstr
      go_wp2_with fail
      refine bodyPost_ret (v:=.tuple #[tokV ⟨3,acc,0,0⟩,.int .i64 ((i:Int)+1)]) (res_tok Tryz.results136 rfl rfl (put_tok (y:=⟨3,acc,0,0⟩) hr1)) rfl ⟨by rw [HD.out];rfl,?_⟩
      exact (((hb2.setCell (Nat.le_refl _) _).setCell (Nat.le_refl _) _).setCell (Nat.le_refl _) _).setCell (Nat.le_refl _) _
     ·have hend:textO (textFrom [] 1 (s.data.toList.drop 1))=(noTok,0):=by rw [hcons];simp [textO];omega
      have HD:=Lib.hid hend
      clear hcons hend hd h34 hr2
      have h64':(64:Int)<acc.length:=by omega
      obtain ⟨r0,r1,r2,r3⟩:=blk_tok hr
      obtain ⟨f0,f1,f2,f3⟩:=free_tok hr
      go_wp2_with fail
      refine hlen.mono ?_
      rintro e w1 ⟨rfl,rfl⟩
      go_wp2_with fail
      exact bodyPost_ret (v:=.tuple #[tokV noTok,.int .i64 0]) (res_tok Tryz.results136 rfl rfl HF.out.1) rfl ⟨by rw [HD.out];rfl,HF.out.2⟩
    ·rw [if_neg h34] at hcons
     have g34:((c.toNat:Int) == 34)=false:=by rw [beq_eq_false_iff_ne];omega
     by_cases h92:c.toNat=92
     ·rw [if_pos h92] at hcons
      have g92:((c.toNat:Int) != 92)=false:=by rw [h92];rfl
      match hr2':r,hr2,hcons with
      | [],hr2,hcons =>
        have he:=at_end hr2
        have hend:textO (textFrom [] 1 (s.data.toList.drop 1))=(noTok,0):=by rw [hcons];rfl
        have HD:=Lib.hid hend
        clear hcons hend hd h34 hr2 h92
        obtain ⟨r0,r1,r2,r3⟩:=blk_tok hr
        obtain ⟨f0,f1,f2,f3⟩:=free_tok hr
        have d1:decide ((i:Int)+1<(s.size:Int))=false:=decide_eq_false (by omega)
        go_wp2_with fail
        exact bodyPost_ret (v:=.tuple #[tokV noTok,.int .i64 0]) (res_tok Tryz.results136 rfl rfl HF.out.1) rfl ⟨by rw [HD.out];rfl,HF.out.2⟩
      | d::r',hr2,hcons =>
        dsimp only at hcons
        obtain ⟨hlt2,hc2,hr3⟩:=byte_at hr2
        have b0:(0:Int)≤(i:Int)+1:=by omega
        have b1:(i:Int)+1<s.size:=by omega
        have t1:((i:Int)+1).toNat=i+1:=by omega
        have d1:decide ((i:Int)+1<(s.size:Int))=true:=decide_eq_true (by omega)
        by_cases hd34:d.toNat=34
        ·have hw:=write_b d hbu (by omega) hsz
         have q34:((d.toNat:Int) == 34)=true:=by rw [hd34];rfl
         have hd2:d.toNat=34∨d.toNat=92:=by omega
         rw [if_pos hd2] at hcons
         have HD:=Lib.hid hcons
         have HR:=Lib.hid hr3
         clear hcons hd h34 h92 hr2 hr3 hd2 hd34
         go_wp2_with fail
         refine hw.mono ?_
         rintro e w1 ⟨rfl,hbu1,hb1⟩
         have hr1:=hr.below hb1 (by omega)
         have hb2:Below w.heap.size w w1:=hb.trans (hb1.mono (by omega))
         clear hbu hr hb hw
         go_wp2_with fail
         exact ⟨⟨i+2,acc++[d],by go_num,by omega,by omega,by simp;omega,by rw [HD.out,HR.out],hbu1,hr1,hb2,by have:=hb1.size;omega⟩,by simp [intOf];omega⟩
        ·have q34:((d.toNat:Int) == 34)=false:=by rw [beq_eq_false_iff_ne];omega
         by_cases hd92:d.toNat=92
         ·have hw:=write_b d hbu (by omega) hsz
          have q92:((d.toNat:Int) == 92)=true:=by rw [hd92];rfl
          have hd2:d.toNat=34∨d.toNat=92:=by omega
          rw [if_pos hd2] at hcons
          have HD:=Lib.hid hcons
          have HR:=Lib.hid hr3
          clear hcons hd h34 h92 hr2 hr3 hd2 hd34 hd92
          go_wp2_with fail
          refine hw.mono ?_
          rintro e w1 ⟨rfl,hbu1,hb1⟩
          have hr1:=hr.below hb1 (by omega)
          have hb2:Below w.heap.size w w1:=hb.trans (hb1.mono (by omega))
          clear hbu hr hb hw
          go_wp2_with fail
          exact ⟨⟨i+2,acc++[d],by go_num,by omega,by omega,by simp;omega,by rw [HD.out,HR.out],hbu1,hr1,hb2,by have:=hb1.size;omega⟩,by simp [intOf];omega⟩
         ·have q92:((d.toNat:Int) == 92)=false:=by rw [beq_eq_false_iff_ne];omega
          have hend:textO (textFrom [] 1 (s.data.toList.drop 1))=(noTok,0):=by rw [hcons,if_neg (by omega)];rfl
          have HD:=Lib.hid hend
          clear hcons hend hd h34 hr2 hr3 h92 hd34 hd92
          obtain ⟨r0,r1,r2,r3⟩:=blk_tok hr
          obtain ⟨f0,f1,f2,f3⟩:=free_tok hr
          go_wp2_with fail
          exact bodyPost_ret (v:=.tuple #[tokV noTok,.int .i64 0]) (res_tok Tryz.results136 rfl rfl HF.out.1) rfl ⟨by rw [HD.out];rfl,HF.out.2⟩
     ·rw [if_neg h92] at hcons
      have g92:((c.toNat:Int) != 92)=true:=by rw [bne_iff_ne];omega
      have hw:=write_b c hbu (by omega) hsz
      have HD:=Lib.hid hcons
      have HR:=Lib.hid hr2
      clear hcons hd h34 h92 hr2
      go_wp2_with fail
      refine hw.mono ?_
      rintro e w1 ⟨rfl,hbu1,hb1⟩
      have hr1:=hr.below hb1 (by omega)
      have hb2:Below w.heap.size w w1:=hb.trans (hb1.mono (by omega))
      clear hbu hr hb hw
      go_wp2_with fail
      exact ⟨⟨i+1,acc++[c],rfl,by omega,by omega,by simp;omega,by rw [HD.out,HR.out],hbu1,hr1,hb2,by have:=hb1.size;omega⟩,by simp [intOf];omega⟩
end Go.Proofs.YtnaehhpikhlppaaGreatDoor

namespace Go.Proofs.YtnaehhpikhlppaaGreatDoor
open Go.RowKit LexS
structure GW (W:World):Prop where
 mx:∃ m:Int,W.cell? ⟨3,0,none⟩=some (.int .i64 m)
 syn:∃ ev:Value,W.cell? ⟨7,0,none⟩=some ev∧(ev=.nilIface∨∃ te pe,ev=.iface te pe)
 rng:∃ ev:Value,W.cell? ⟨8,0,none⟩=some ev∧(ev=.nilIface∨∃ te pe,ev=.iface te pe)
 tab:Lib.TabIs Tryz.prog W "internal/strconv.uint64pow10" .u64 Lib.pow10Tab
 big:4<W.heap.size
theorem GW.kept {W W1:World} (h:GW W) (hb:Below W.heap.size W W1):GW W1 where
 mx:=by obtain ⟨m,hm⟩:=h.mx;exact ⟨m,keepc hb hm⟩
 syn:=by obtain ⟨ev,hm,hi⟩:=h.syn;exact ⟨ev,keepc hb hm,hi⟩
 rng:=by obtain ⟨ev,hm,hi⟩:=h.rng;exact ⟨ev,keepc hb hm,hi⟩
 tab:=var?_below hb (g:=4) (by kernel_rfl) h.big h.tab
 big:=Nat.lt_of_lt_of_le h.big hb.size
theorem GW.alloc {W:World} (h:GW W) (o:Obj):GW (W.alloc o):=h.kept ((Below.refl _ _).alloc (Nat.le_refl _) _)
theorem byte_all (p:UInt8→Prop) (h:∀ n,n<256→p (UInt8.ofNat n)) (c:UInt8):p c:=by
 have:=h c.toNat c.toNat_lt
 rwa [UInt8.ofNat_toNat] at this
theorem contains_long (c:UInt8):Lib.contains [33,61,32,60,61,32,62,61] [c,61]=decide (c.toNat=33∨c.toNat=60∨c.toNat=62) :=
 byte_all (fun c=>Lib.contains [33,61,32,60,61,32,62,61] [c,61]=decide (c.toNat=33∨c.toNat=60∨c.toNat=62)) (by decide +kernel) c
theorem contains_short (c:UInt8):decide (0≤Lib.indexByte [124,44,40,41,58,61,60,62] c)=decide (c.toNat=124∨c.toNat=44∨c.toNat=40∨c.toNat=41∨c.toNat=58∨c.toNat=61∨c.toNat=60∨c.toNat=62) :=
 byte_all (fun c=>decide (0≤Lib.indexByte [124,44,40,41,58,61,60,62] c)=decide (c.toNat=124∨c.toNat=44∨c.toNat=40∨c.toNat=41∨c.toNat=58∨c.toNat=61∨c.toNat=60∨c.toNat=62)) (by decide +kernel) c
theorem contains_blank (c:UInt8):decide (0≤Lib.indexByte [32,9,10,13] c)=blankB c :=
 byte_all (fun c=>decide (0≤Lib.indexByte [32,9,10,13] c)=blankB c) (by decide +kernel) c
theorem text_of {s:ByteArray} {l:List UInt8} (h:s.data.toList=l):s=⟨l.toArray⟩:=by rw [← h]
theorem cut_text (s:ByteArray) (a b:Nat):s.extract a b=⟨((s.data.toList.take b).drop a).toArray⟩:=text_of (list_cut s a b)
def signT (l:Bytes):Tok×Nat:=if signLen l=0 then (noTok,0) else (⟨4,l.take (signLen l),0,0⟩,signLen l)
theorem tok_stores {w:World} {wr:World} (hr:Blk wr w.heap.size 65 (tokA noTok)) (hb:Below w.heap.size w wr) (y:Tok) :
 Blk ((((wr.setCell ⟨w.heap.size,0,none⟩ (.int .i64 (y.kind:Int))).setCell ⟨w.heap.size,1,none⟩ (.string ⟨y.s.toArray⟩)).setCell ⟨w.heap.size,2,none⟩ (.int .i64 y.n)).setCell ⟨w.heap.size,3,none⟩ (.int .i64 (y.at_:Int))) w.heap.size 65 (tokA y) ∧
 Below w.heap.size w ((((wr.setCell ⟨w.heap.size,0,none⟩ (.int .i64 (y.kind:Int))).setCell ⟨w.heap.size,1,none⟩ (.string ⟨y.s.toArray⟩)).setCell ⟨w.heap.size,2,none⟩ (.int .i64 y.n)).setCell ⟨w.heap.size,3,none⟩ (.int .i64 (y.at_:Int))) :=
 ⟨put_tok hr,(((hb.setCell (Nat.le_refl _) _).setCell (Nat.le_refl _) _).setCell (Nat.le_refl _) _).setCell (Nat.le_refl _) _⟩
theorem new_tok {w:World} (y:Tok):Blk (w.alloc (.cells (tokA y) 65)) w.heap.size 65 (tokA y)∧Below w.heap.size w (w.alloc (.cells (tokA y) 65)) :=
 ⟨Blk.new w _ _,(Below.refl _ _).alloc (Nat.le_refl _) _⟩
theorem sign_any (s:ByteArray) (c:UInt8) (r:List UInt8) (hl:s.data.toList=c::r) (hs:s.size≤140737488351232) (w:World) (hg:GW w) :
 Calls Tryz.prog 139 #[.string s] w fun e w'=>e=.returned (.tuple #[tokV (signT s.data.toList).1,.int .i64 ((signT s.data.toList).2:Int)])∧Below w.heap.size w w':=by
 have hsz:s.size=r.length+1:=by rw [← size_list,hl];rfl
 obtain ⟨h0,hc0,_⟩:=byte_at (i:=0) (by rw [List.drop_zero];exact hl)
 have e1:s.extract 0 1=⟨#[c]⟩:=by rw [cut_text,hl];rfl
 have hone:=Tryz.strings_Contains_one ⟨#[124,44,40,41,58,61,60,62]⟩ c
 have hsh:=contains_short c
 change decide (0≤Lib.indexByte (⟨#[124,44,40,41,58,61,60,62]⟩:ByteArray).data.toList c)=_ at hsh
 rw [hsh] at hone
 clear hsh
 obtain ⟨m,hm⟩:=hg.mx
 have hm':∀ o,(w.alloc o).cell? ⟨3,0,none⟩=some (.int .i64 m):=fun o=>keepc ((Below.refl _ _).alloc (Nat.le_refl _) _) hm
 have HM:=Lib.hid hm'
 clear hm hm' hg
 match r with
 | [] =>
   have hno:¬ ((([]:List UInt8).head?.map (·.toNat)=some 61)∧(c.toNat=33∨c.toNat=60∨c.toNat=62)):=by simp
   have hq:(s.size:Int)=1:=by rw [hsz];rfl
   have hq2:decide (1<(s.size:Int))=false:=by rw [hq];rfl
   have hq1:(0:Int)<s.size:=by omega
   have hq3:(1:Int)≤s.size:=by omega
   have hq4:(s.size:Int)≤1:=by omega
   clear hq hsz
   by_cases hc1_:c.toNat=124∨c.toNat=44∨c.toNat=40∨c.toNat=41∨c.toNat=58∨c.toNat=61∨c.toNat=60∨c.toNat=62
   ·rw [decide_eq_true hc1_] at hone
    have hend:signT s.data.toList=(⟨4,[c],0,0⟩,1):=by
     have:signLen s.data.toList=1:=by rw [hl];simp only [signLen];rw [if_neg hno,if_pos hc1_]
     unfold signT
     rw [this,hl]
     rfl
    have HD:=Lib.hid hend
    clear hend hno hl hc1_
    go_enter Tryz.func139,Tryz.ntmps139
    go_wp2_with fail
    refine (hone _).mono ?_
    rintro e w1 ⟨rfl,rfl⟩
    go_wp2_with fail
    have HT:=new_tok (w:=w) ⟨4,[c],0,0⟩
    exact bodyPost_ret (v:=.tuple #[tokV ⟨4,[c],0,0⟩,.int .i64 1]) (res_tok Tryz.results139 rfl rfl HT.1) rfl ⟨by rw [HD.out];rfl,HT.2⟩
   ·rw [decide_eq_false hc1_] at hone
    have hend:signT s.data.toList=(noTok,0):=by
     have:signLen s.data.toList=0:=by rw [hl];simp only [signLen];rw [if_neg hno,if_neg hc1_]
     unfold signT
     rw [this]
     rfl
    have HD:=Lib.hid hend
    clear hend hno hl hc1_
    go_enter Tryz.func139,Tryz.ntmps139
    go_wp2_with fail
    refine (hone _).mono ?_
    rintro e w1 ⟨rfl,rfl⟩
    go_wp2_with fail
    have HT:=new_tok (w:=w) noTok
    exact bodyPost_ret (v:=.tuple #[tokV noTok,.int .i64 0]) (res_tok Tryz.results139 rfl rfl HT.1) rfl ⟨by rw [HD.out];rfl,HT.2⟩
 | d::r' =>
   obtain ⟨h1,hc1,_⟩:=byte_at (s:=s) (i:=1) (c:=d) (r:=r') (by rw [hl];rfl)
   have hg1:(1:Int)<s.size:=by omega
   have hg2:(2:Int)≤s.size:=by omega
   by_cases hd:d.toNat=61
   ·have hd':d=61:=by rw [← UInt8.ofNat_toNat (x:=d),hd];rfl
    subst hd'
    have e2:s.extract 0 2=⟨#[c,61]⟩:=by rw [cut_text,hl];rfl
    have htwo:=Tryz.strings_Contains ⟨#[33,61,32,60,61,32,62,61]⟩ ⟨#[c,61]⟩ m
    have hlg:=contains_long c
    change Lib.contains (⟨#[33,61,32,60,61,32,62,61]⟩:ByteArray).data.toList (⟨#[c,61]⟩:ByteArray).data.toList=_ at hlg
    rw [hlg] at htwo
    clear hlg hd
    by_cases hc:c.toNat=33∨c.toNat=60∨c.toNat=62
    ·rw [decide_eq_true hc] at htwo
     have hend:signT s.data.toList=(⟨4,[c,61],0,0⟩,2):=by
      rw [hl]
      have:signLen (c::61::r')=2:=by simp [signLen,hc]
      unfold signT
      rw [this]
      rfl
     have HD:=Lib.hid hend
     clear hend hc hl hone
     go_enter Tryz.func139,Tryz.ntmps139
     go_wp2_with fail
     refine (htwo _ (by decide) (HM.out _)).mono ?_
     rintro e w1 ⟨rfl,rfl⟩
     go_wp2_with fail
     have HT:=new_tok (w:=w) ⟨4,[c,61],0,0⟩
     exact bodyPost_ret (v:=.tuple #[tokV ⟨4,[c,61],0,0⟩,.int .i64 2]) (res_tok Tryz.results139 rfl rfl HT.1) rfl ⟨by rw [HD.out];rfl,HT.2⟩
    ·rw [decide_eq_false hc] at htwo
     have hno:¬ (((61::r':List UInt8).head?.map (·.toNat)=some 61)∧(c.toNat=33∨c.toNat=60∨c.toNat=62)):=fun h=>hc h.2
     clear hc
     by_cases hc1_:c.toNat=124∨c.toNat=44∨c.toNat=40∨c.toNat=41∨c.toNat=58∨c.toNat=61∨c.toNat=60∨c.toNat=62
     ·rw [decide_eq_true hc1_] at hone
      have hend:signT s.data.toList=(⟨4,[c],0,0⟩,1):=by
       have:signLen s.data.toList=1:=by rw [hl];simp only [signLen];rw [if_neg hno,if_pos hc1_]
       unfold signT
       rw [this,hl]
       rfl
      have HD:=Lib.hid hend
      clear hend hno hl hc1_
      go_enter Tryz.func139,Tryz.ntmps139
      go_wp2_with fail
      refine (htwo _ (by decide) (HM.out _)).mono ?_
      rintro e w1 ⟨rfl,rfl⟩
      go_wp2_with fail
      refine (hone _).mono ?_
      rintro e w1 ⟨rfl,rfl⟩
      go_wp2_with fail
      have HT:=new_tok (w:=w) ⟨4,[c],0,0⟩
      exact bodyPost_ret (v:=.tuple #[tokV ⟨4,[c],0,0⟩,.int .i64 1]) (res_tok Tryz.results139 rfl rfl HT.1) rfl ⟨by rw [HD.out];rfl,HT.2⟩
     ·rw [decide_eq_false hc1_] at hone
      have hend:signT s.data.toList=(noTok,0):=by
       have:signLen s.data.toList=0:=by rw [hl];simp only [signLen];rw [if_neg hno,if_neg hc1_]
       unfold signT
       rw [this]
       rfl
      have HD:=Lib.hid hend
      clear hend hno hl hc1_
      go_enter Tryz.func139,Tryz.ntmps139
      go_wp2_with fail
      refine (htwo _ (by decide) (HM.out _)).mono ?_
      rintro e w1 ⟨rfl,rfl⟩
      go_wp2_with fail
      refine (hone _).mono ?_
      rintro e w1 ⟨rfl,rfl⟩
      go_wp2_with fail
      have HT:=new_tok (w:=w) noTok
      exact bodyPost_ret (v:=.tuple #[tokV noTok,.int .i64 0]) (res_tok Tryz.results139 rfl rfl HT.1) rfl ⟨by rw [HD.out];rfl,HT.2⟩
   ·have hno:¬ (((d::r':List UInt8).head?.map (·.toNat)=some 61)∧(c.toNat=33∨c.toNat=60∨c.toNat=62)):=by simp [hd]
    have hd':((d.toNat:Int) == 61)=false:=by rw [beq_eq_false_iff_ne];omega
    clear hd
    by_cases hc1_:c.toNat=124∨c.toNat=44∨c.toNat=40∨c.toNat=41∨c.toNat=58∨c.toNat=61∨c.toNat=60∨c.toNat=62
    ·rw [decide_eq_true hc1_] at hone
     have hend:signT s.data.toList=(⟨4,[c],0,0⟩,1):=by
      have:signLen s.data.toList=1:=by rw [hl];simp only [signLen];rw [if_neg hno,if_pos hc1_]
      unfold signT
      rw [this,hl]
      rfl
     have HD:=Lib.hid hend
     clear hend hno hl hc1_
     go_enter Tryz.func139,Tryz.ntmps139
     go_wp2_with fail
     refine (hone _).mono ?_
     rintro e w1 ⟨rfl,rfl⟩
     go_wp2_with fail
     have HT:=new_tok (w:=w) ⟨4,[c],0,0⟩
     exact bodyPost_ret (v:=.tuple #[tokV ⟨4,[c],0,0⟩,.int .i64 1]) (res_tok Tryz.results139 rfl rfl HT.1) rfl ⟨by rw [HD.out];rfl,HT.2⟩
    ·rw [decide_eq_false hc1_] at hone
     have hend:signT s.data.toList=(noTok,0):=by
      have:signLen s.data.toList=0:=by rw [hl];simp only [signLen];rw [if_neg hno,if_neg hc1_]
      unfold signT
      rw [this]
      rfl
     have HD:=Lib.hid hend
     clear hend hno hl hc1_
     go_enter Tryz.func139,Tryz.ntmps139
     go_wp2_with fail
     refine (hone _).mono ?_
     rintro e w1 ⟨rfl,rfl⟩
     go_wp2_with fail
     have HT:=new_tok (w:=w) noTok
     exact bodyPost_ret (v:=.tuple #[tokV noTok,.int .i64 0]) (res_tok Tryz.results139 rfl rfl HT.1) rfl ⟨by rw [HD.out];rfl,HT.2⟩
end Go.Proofs.YtnaehhpikhlppaaGreatDoor

namespace Go.Proofs.YtnaehhpikhlppaaGreatDoor.ParS
open LexS
structure Tk where
 kind:Nat
 s:Bytes
 n:Int
 deriving DecidableEq
def tk (t:Tok):Tk:=⟨t.kind,t.s,t.n⟩
structure Val where
 kind:Nat
 n:Int
 s:Bytes
 deriving DecidableEq
def noVal:Val:=⟨0,0,[]⟩
structure Nd where
 kind:Nat
 s:Bytes
 n:Int
 from_:Int
 to_:Int
 v:Val
 l:List Nat
 names:List Bytes
 aggs:List (Nat×Bytes)
 deriving DecidableEq
def node (kind:Nat) (l:List Nat):Nd:=⟨kind,[],0,0,0,noVal,l,[],[]⟩
abbrev Er:=Nat×Bool
def codeOf (long:Bool):Nat:=if long then 2 else 120
abbrev M (α:Type):=List Tk→List Nd→Except Er (α×List Tk×List Nd)
def M.bind {α β:Type} (p:M α) (f:α→M β):M β:=fun ts ns=>match p ts ns with
 | .error e=>.error e
 | .ok (a,ts1,ns1)=>f a ts1 ns1
def M.pure {α:Type} (a:α):M α:=fun ts ns=>.ok (a,ts,ns)
def M.fail {α:Type}:M α:=fun ts _=>.error (ts.length,false)
def M.deep {α:Type}:M α:=fun ts _=>.error (ts.length+1,true)
def kw_fetch:Bytes:=[102,101,116,99,104]
def kw_from:Bytes:=[102,114,111,109]
def kw_to:Bytes:=[116,111]
def kw_bar:Bytes:=[124]
def kw_comma:Bytes:=[44]
def kw_open:Bytes:=[40]
def kw_shut:Bytes:=[41]
def kw_colon:Bytes:=[58]
def kw_by:Bytes:=[98,121]
def kw_or:Bytes:=[111,114]
def kw_and:Bytes:=[97,110,100]
def kw_not:Bytes:=[110,111,116]
def kw_has:Bytes:=[104,97,115]
def kw_aggs:List Bytes:=[[99,111,117,110,116],[115,117,109],[109,105,110],[109,97,120],[109,101,97,110],[109,101,114,103,101]]
def kw_steps:List Bytes:=[[119,104,101,114,101],[107,101,101,112],[97,108,105,103,110],[103,114,111,117,112],[116,111,112],[106,111,105,110],[117,110,105,111,110]]
def kw_signs:List Bytes:=[[61],[33,61],[60],[60,61],[62],[62,61]]
def kw_bools:List Bytes:=[[102,97,108,115,101],[116,114,117,101]]
def isW (w:Bytes) (t:Tk):Bool:=(decide (t.kind=1) || decide (t.kind=4)) && decide (t.s=w)
def sees (w:Bytes):List Tk→Option (List Tk)
 | []=>none
 | t::ts=>if isW w t then some ts else none
theorem sees_cons (w:Bytes) (t:Tk) (ts:List Tk):sees w (t::ts)=if isW w t then some ts else none:=rfl
def wants (w:Bytes):M Unit:=fun ts ns=>match sees w ts with
 | some ts1=>.ok ((),ts1,ns)
 | none=>.error (ts.length,false)
def take (k:Nat):M Tk:=fun ts ns=>match ts with
 | []=>.error (0,false)
 | t::ts1=>if t.kind=k then .ok (t,ts1,ns) else .error (ts1.length+1,false)
def lay (n:Nd):M Nat:=fun ts ns=>.ok (ns.length,ts,ns++[n])
def choice:List Bytes→Nat→List Tk→Nat×List Tk
 | [],_,ts=>(0,ts)
 | w::l,i,ts=>match sees w ts with
   | some ts1=>(i,ts1)
   | none=>choice l (i+1) ts
def fuel:Nat:=1025
def manyGo {α:Type} (f:M α):Nat→List α→M (List α)
 | 0,acc=>M.pure acc
 | k+1,acc=>fun ts ns=>match sees kw_comma ts with
   | none=>.ok (acc,ts,ns)
   | some ts1=>M.bind f (fun a=>manyGo f k (acc++[a])) ts1 ns
def many {α:Type} (f:M α):M (List α):=M.bind f fun a ts ns=>manyGo f fuel [a] ts ns
def name:M Bytes:=M.bind (take 1) fun t=>M.pure t.s
def names:M (List Bytes):=many name
def agg:M (Nat×Bytes):=fun ts ns=>match choice kw_aggs 1 ts with
 | (0,_)=>.error (ts.length,false)
 | (1,ts1)=>.ok ((1,[]),ts1,ns)
 | (k+2,ts1)=>M.bind (take 1) (fun t=>M.pure (k+2,t.s)) ts1 ns
def aggs:M (List (Nat×Bytes)):=many agg
def value:M Val:=fun ts ns=>match choice kw_bools 1 ts with
 | (1,ts1)=>.ok (⟨3,0,[]⟩,ts1,ns)
 | (2,ts1)=>.ok (⟨3,1,[]⟩,ts1,ns)
 | _=>match ts with
   | []=>.error (0,false)
   | t::ts1=>if t.kind=2 then .ok (⟨1,t.n,[]⟩,ts1,ns) else if t.kind=3 then .ok (⟨2,0,t.s⟩,ts1,ns) else .error (ts1.length+1,false)
def leaf:M Nat:=M.bind (take 1) fun t ts ns=>match sees kw_has ts with
 | some ts1=>M.bind (take 3) (fun u=>lay {node 15 [] with s:=t.s,v:=⟨2,0,u.s⟩}) ts1 ns
 | none=>match choice kw_signs 1 ts with
   | (0,_)=>.error (ts.length,false)
   | (k+1,ts1)=>M.bind value (fun v=>lay {node 14 [] with s:=t.s,n:=((k+1:Nat):Int),v:=v}) ts1 ns
def joinedGo (w:Bytes) (kind:Nat) (read:M Nat):Nat→Nat→M Nat
 | 0,a=>M.pure a
 | k+1,a=>fun ts ns=>match sees w ts with
   | none=>.ok (a,ts,ns)
   | some ts1=>M.bind read (fun b=>M.bind (lay (node kind [a,b])) (joinedGo w kind read k)) ts1 ns
def joined (w:Bytes) (kind:Nat) (read:M Nat):M Nat:=M.bind read fun a ts ns=>joinedGo w kind read fuel a ts ns
def bothOf (n:M Nat):M Nat:=joined kw_and 11 n
def condOf (n:M Nat):M Nat:=joined kw_or 12 (bothOf n)
def shut (p:M Nat):M Nat:=M.bind p fun a=>M.bind (wants kw_shut) fun _=>M.pure a
def notOf (inNot inCond:M Nat):M Nat:=fun ts ns=>match sees kw_not ts with
 | some ts1=>M.bind inNot (fun a=>lay (node 13 [a])) ts1 ns
 | none=>match sees kw_open ts with
   | some ts1=>inCond ts1 ns
   | none=>leaf ts ns
def pNot:Nat→M Nat
 | 0=>notOf M.deep M.deep
 | d+1=>notOf (pNot d) (shut (condOf (pNot d)))
def pCond (d:Nat):M Nat:=condOf (pNot d)
def stepOf (inner cond:M Nat) (rows:Nat):M Nat:=fun ts ns=>match choice kw_steps 1 ts with
 | (1,ts1)=>M.bind cond (fun c=>lay (node 2 [rows,c])) ts1 ns
 | (2,ts1)=>M.bind names (fun l=>lay {node 3 [rows] with names:=l}) ts1 ns
 | (3,ts1)=>M.bind (take 2) (fun t=>lay {node 4 [rows] with n:=t.n}) ts1 ns
 | (4,ts1)=>M.bind (fun ts2 ns2=>match sees kw_colon ts2 with
  | some _=>.ok ([],ts2,ns2)
  | none=>names ts2 ns2) (fun l=>M.bind (wants kw_colon) fun _=>M.bind aggs fun a=>lay {node 5 [rows] with names:=l,aggs:=a}) ts1 ns
 | (5,ts1)=>M.bind (take 2) (fun t=>M.bind (wants kw_by) fun _=>M.bind (take 1) fun u=>lay {node 6 [rows] with n:=t.n,s:=u.s}) ts1 ns
 | (6,ts1)=>M.bind (wants kw_open) (fun _=>M.bind inner fun i=>lay (node 7 [rows,i])) ts1 ns
 | (7,ts1)=>M.bind (wants kw_open) (fun _=>M.bind inner fun i=>lay (node 8 [rows,i])) ts1 ns
 | _=>.error (ts.length,false)
def stepsGo (step:Nat→M Nat):Nat→Nat→M Nat
 | 0,a=>M.pure a
 | k+1,a=>fun ts ns=>match sees kw_bar ts with
   | none=>.ok (a,ts,ns)
   | some ts1=>M.bind (step a) (stepsGo step k) ts1 ns
def times:M (Int×Int):=fun ts ns=>match sees kw_from ts with
 | some ts1=>M.bind (take 2) (fun f=>M.bind (wants kw_to) fun _=>M.bind (take 2) fun g=>M.pure (f.n,g.n)) ts1 ns
 | none=>.ok ((0,1099511627775),ts,ns)
def queryOf (step:Nat→M Nat):M Nat:=M.bind (wants kw_fetch) fun _=>M.bind (take 1) fun t=>M.bind times fun x =>
 M.bind (lay {node 1 [] with s:=t.s,from_:=x.1,to_:=x.2}) fun a ts ns=>stepsGo step fuel a ts ns
def pInner:Nat→M Nat
 | 0=>M.deep
 | d+1=>shut (queryOf (stepOf (pInner d) (pCond d)))
def pQuery (d:Nat):M Nat:=queryOf (stepOf (pInner d) (pCond d))
def parseAll (read:M Nat) (l:List Tk):List Nd×Nat×Nat :=
 if 1024<l.length then ([],0,2) else match read l [] with
  | .error (k,e)=>([],l.length-k,codeOf e)
  | .ok (_,ts,ns)=>if ts ≠ [] then ([],l.length-ts.length,120) else if 128<ns.length then ([],0,2) else (ns,0,0)
def parseS (l:List Tok):List Nd×Nat×Nat:=parseAll (pQuery 16) (l.map tk)
def queryS (s:Bytes):List Nd×Nat×Nat:=match lexS s with
 | (l,at_,e)=>if e≠0 then ([],at_,e) else match parseS l with
   | (ns,n,f)=>if f=0 then (ns,0,0) else match l[n]? with
     | some t=>(ns,t.at_,f)
     | none=>(ns,s.length,f)
end Go.Proofs.YtnaehhpikhlppaaGreatDoor.ParS
