/- Several texts of the proof, joined. -/
import Derived.Test.YtnaehhpikhlppaaGreatDoorE25
import Derived.Test.YtnaehhpikhlppaaGreatDoorE26
set_option maxHeartbeats 4000000
set_option maxRecDepth 100000
set_option linter.unusedVariables false
set_option linter.unusedSimpArgs false
namespace Go.Proofs.YtnaehhpikhlppaaGreatDoor
open Go.RowKit LexS ParS BigFrame
attribute [local go_sem] World.cell?_alloc_some
section
variable {ns:List Nd} {g cap i:Nat}
theorem lc_wrap {rank wanted:Nat} {nd:Nd} {toks:List Tk} (hi:ns[i]?=some nd) (hk:(if nd.kind=12 then 1 else if nd.kind=11 then 2 else 3:Nat)=rank) (body:∀ w,w≤rank→LineC ns g cap i w toks):LineC ns g cap i wanted (ParS.brk rank wanted toks):=by
 unfold ParS.brk
 by_cases h:rank<wanted
 ·rw [if_pos h]
  exact lcond_brk wanted h hi hk (body 0 (Nat.zero_le _))
 ·rw [if_neg h]
  exact body wanted (by omega)
theorem lcond_any (ns:List Nd) (g cap:Nat):∀ (c:Cd) (b wanted:Nat),c.Ok→At ns b (c.flat b)→LineC ns g cap (b+c.len-1) wanted (c.tok wanted)
 | .cmp s n v,b,wanted,h,ha=>lc_wrap (rank:=3) ha.one rfl fun w hw=>lcond_cmp w hw ha.one h.2.1 h.2.2.1 h.2.2.2
 | .has s t,b,wanted,h,ha=>lc_wrap (rank:=3) ha.one rfl fun w hw=>lcond_has w hw ha.one
 | .not c,b,wanted,h,ha=>by
   have ih:=lcond_any ns g cap c b 3 h ha.left
   have hi:=ha.right.one
   rw [Cd.flat_len] at hi
   have hp:=c.pos
   have e:b+Cd.len (.not c)-1=b+c.len:=by show b+(c.len+1)-1=_;omega
   rw [e]
   exact lc_wrap (rank:=3) hi rfl fun w hw=>lcond_not w hw hi (by omega) ih
 | .and x y,b,wanted,h,ha=>by
   have ih1:=lcond_any ns g cap x b 2 h.1 ha.left.left
   have ha2:=ha.left.right
   rw [Cd.flat_len] at ha2
   have ih2:=lcond_any ns g cap y (b+x.len) 3 h.2 ha2
   have hi:=ha.right.one
   rw [List.length_append,Cd.flat_len,Cd.flat_len,← Nat.add_assoc] at hi
   have hp:=x.pos
   have hq:=y.pos
   have e:b+Cd.len (.and x y)-1=b+x.len+y.len:=by show b+(x.len+y.len+1)-1=_;omega
   rw [e]
   exact lc_wrap (rank:=2) hi rfl fun w hw=>lcond_and w hw hi (by omega) (by omega) ih1 ih2
 | .or x y,b,wanted,h,ha=>by
   have ih1:=lcond_any ns g cap x b 1 h.1 ha.left.left
   have ha2:=ha.left.right
   rw [Cd.flat_len] at ha2
   have ih2:=lcond_any ns g cap y (b+x.len) 2 h.2 ha2
   have hi:=ha.right.one
   rw [List.length_append,Cd.flat_len,Cd.flat_len,← Nat.add_assoc] at hi
   have hp:=x.pos
   have hq:=y.pos
   have e:b+Cd.len (.or x y)-1=b+x.len+y.len:=by show b+(x.len+y.len+1)-1=_;omega
   rw [e]
   exact lc_wrap (rank:=1) hi rfl fun w hw=>lcond_or w hw hi (by omega) (by omega) ih1 ih2
def LineR (ns:List Nd) (g cap i:Nat) (toks:List Tk):Prop := ∀ (w0 W:World) (lv:Value) (T:List Tk),NR w0 (.slice (some ⟨g,0,none⟩) ns.length cap) ns→LN w0 (.slice (some ⟨g,0,none⟩) ns.length cap) lv T W→T.length+toks.length≤1100 →
 Calls Tryz.prog 46 #[RP w0.heap.size,.int .i64 (i:Int)] W (LNP w0 (.slice (some ⟨g,0,none⟩) ns.length cap) lv (T++toks) W)
theorem lrow_all {s:Bytes} (hi:ns[i]?=some {node 1 [] with s:=s,from_:=0,to_:=1099511627775}):LineR ns g cap i ([wd kw_fetch,wd s]):=by
 intro w0 W lv T hn h hT
 obtain ⟨m,b,hm,hmk,hr,_,hml⟩:=nr_rangeP hn hi
 have hlt:i<ns.length:=(List.getElem?_eq_some_iff.1 hi).1
 simp only [maxLen] at hml
 have a0:(0:Int)≤(i:Int):=by omega
 have a1:(i:Int)<(ns.length:Int):=by omega
 have a2:¬ (i:Int)<0:=by omega
 have a2':decide ((i:Int)<0)=false:=decide_eq_false a2
 have hone:=hmk.onesP
 have HR:=Lib.hid (range_kept h.below hr)
 have hth:=nd_there W
 have HS:=Lib.hid (fun w4 h4=>nd_stored (w3:=W) (w4:=w4) (m:=m) h4)
 have HM:=Lib.hid hm
 have HMK:=Lib.hid hmk
 have HN:=Lib.hid hn
 have HI:=Lib.hid hi
 have H0:=Lib.hid h
 have c0:W.cell? ⟨w0.heap.size,0,none⟩=some (.slice (some ⟨g,0,none⟩) ns.length cap):=h.box.cell 0
 have c2:W.cell? ⟨w0.heap.size,2,none⟩=some (.bool false):=h.box.cell 2
 have hl2:T.length+2≤1100:=by simp at hT;omega
 clear hT
 clear hi hn hm hmk hr h hml
 go_enter Tryz.func46,Tryz.ntmps46
 go_wp2_with (first
  | (refine wpList_load_mid (by rfl) 42 (.tmp 22) (by rfl) g (i*19) (by rfl) m.cells _ HR.out undNode (by rfl) sizeNode ?_)
  | (refine wpList_store_mid (by rfl) 42 (.tmp 4) (.tmp 23) (by rfl) W.heap.size 0 m.cells.toArray (by rfl) (by rfl) hth sizeNode hone ?_
     generalize hw4:World.setCells _ _ _ _=w4
     obtain ⟨hb4,hk4⟩:=HS.out w4 hw4
     have H4:=Lib.hid (H0.out.kept hb4)
     have K4:=Lib.hid hk4
     have S4:=Lib.hid (show Stp w0.heap.size lv W lv w4 from Stp.of hb4)
     have k4:w4.cell? ⟨W.heap.size,0,none⟩=some (.int .i64 (1:Int)):=by have:=hk4.cell 0;rw [show m.cells.toArray[0]?=some (.int .i64 (m.node.kind:Int)) from rfl,HM.out] at this;exact this
     clear hw4 hb4 hk4 hth hone c0 c2))
 refine (word_r kw_fetch H4.out (by omega)).mono ?_
 rintro e w5 ⟨rfl,lv5,h5,s5⟩
 have H5:=Lib.hid h5
 have S5:=Lib.hid (Stp.trans S4.out s5)
 have K5:=Lib.hid (H4.out.keep s5 K4.out (by decide) (by decide))
 have y5_1:w5.cell? ⟨W.heap.size,1,none⟩=some (.string (BA s)):=by have:=K5.out.cell 1;rw [show m.cells.toArray[1]?=some (.string (BA m.node.s)) from rfl,HM.out] at this;exact this
 clear h5 s5
 clear k4
 go_wp2_with fail
 refine (word_r s H5.out (by simp only [List.length_append,List.length_cons,List.length_nil];omega)).mono ?_
 rintro e w6 ⟨rfl,lv6,h6,s6⟩
 have H6:=Lib.hid h6
 have S6:=Lib.hid (Stp.trans S5.out s6)
 have K6:=Lib.hid (H5.out.keep s6 K5.out (by decide) (by decide))
 have y6_3:w6.cell? ⟨W.heap.size,3,none⟩=some (.int .i64 0):=by have:=K6.out.cell 3;rw [show m.cells.toArray[3]?=some (.int .i64 m.node.from_) from rfl,HM.out] at this;exact this
 have y6_4:w6.cell? ⟨W.heap.size,4,none⟩=some (.int .i64 1099511627775):=by have:=K6.out.cell 4;rw [show m.cells.toArray[4]?=some (.int .i64 m.node.to_) from rfl,HM.out] at this;exact this
 clear h6 s6
 clear y5_1
 go_wp2_with fail
 exact bodyPost_ret (v:=.tuple #[]) (results_none rfl _ _ _) rfl ⟨rfl,lv6,by have h9:=H6.out;simp only [List.append_assoc,List.cons_append,List.nil_append] at h9 ⊢;exact h9,S6.out⟩
theorem lrow_from {s:Bytes} {f t:Int} (hf:f≠0) (hi:ns[i]?=some {node 1 [] with s:=s,from_:=f,to_:=t}):LineR ns g cap i ([wd kw_fetch,wd s]++[wd kw_from,nm f,wd kw_to,nm t]):=by
 intro w0 W lv T hn h hT
 obtain ⟨m,b,hm,hmk,hr,_,hml⟩:=nr_rangeP hn hi
 have hlt:i<ns.length:=(List.getElem?_eq_some_iff.1 hi).1
 simp only [maxLen] at hml
 have a0:(0:Int)≤(i:Int):=by omega
 have a1:(i:Int)<(ns.length:Int):=by omega
 have a2:¬ (i:Int)<0:=by omega
 have a2':decide ((i:Int)<0)=false:=decide_eq_false a2
 have hone:=hmk.onesP
 have HR:=Lib.hid (range_kept h.below hr)
 have hth:=nd_there W
 have HS:=Lib.hid (fun w4 h4=>nd_stored (w3:=W) (w4:=w4) (m:=m) h4)
 have HM:=Lib.hid hm
 have HMK:=Lib.hid hmk
 have HN:=Lib.hid hn
 have HI:=Lib.hid hi
 have H0:=Lib.hid h
 have c0:W.cell? ⟨w0.heap.size,0,none⟩=some (.slice (some ⟨g,0,none⟩) ns.length cap):=h.box.cell 0
 have c2:W.cell? ⟨w0.heap.size,2,none⟩=some (.bool false):=h.box.cell 2
 have hl2:T.length+6≤1100:=by simp at hT;omega
 have g1:(f != 0)=true:=bne_iff_ne.2 hf
 clear hT hf
 clear hi hn hm hmk hr h hml
 go_enter Tryz.func46,Tryz.ntmps46
 go_wp2_with (first
  | (refine wpList_load_mid (by rfl) 42 (.tmp 22) (by rfl) g (i*19) (by rfl) m.cells _ HR.out undNode (by rfl) sizeNode ?_)
  | (refine wpList_store_mid (by rfl) 42 (.tmp 4) (.tmp 23) (by rfl) W.heap.size 0 m.cells.toArray (by rfl) (by rfl) hth sizeNode hone ?_
     generalize hw4:World.setCells _ _ _ _=w4
     obtain ⟨hb4,hk4⟩:=HS.out w4 hw4
     have H4:=Lib.hid (H0.out.kept hb4)
     have K4:=Lib.hid hk4
     have S4:=Lib.hid (show Stp w0.heap.size lv W lv w4 from Stp.of hb4)
     have k4:w4.cell? ⟨W.heap.size,0,none⟩=some (.int .i64 (1:Int)):=by have:=hk4.cell 0;rw [show m.cells.toArray[0]?=some (.int .i64 (m.node.kind:Int)) from rfl,HM.out] at this;exact this
     clear hw4 hb4 hk4 hth hone c0 c2))
 refine (word_r kw_fetch H4.out (by omega)).mono ?_
 rintro e w5 ⟨rfl,lv5,h5,s5⟩
 have H5:=Lib.hid h5
 have S5:=Lib.hid (Stp.trans S4.out s5)
 have K5:=Lib.hid (H4.out.keep s5 K4.out (by decide) (by decide))
 have y5_1:w5.cell? ⟨W.heap.size,1,none⟩=some (.string (BA s)):=by have:=K5.out.cell 1;rw [show m.cells.toArray[1]?=some (.string (BA m.node.s)) from rfl,HM.out] at this;exact this
 clear h5 s5
 clear k4
 go_wp2_with fail
 refine (word_r s H5.out (by simp only [List.length_append,List.length_cons,List.length_nil];omega)).mono ?_
 rintro e w6 ⟨rfl,lv6,h6,s6⟩
 have H6:=Lib.hid h6
 have S6:=Lib.hid (Stp.trans S5.out s6)
 have K6:=Lib.hid (H5.out.keep s6 K5.out (by decide) (by decide))
 have y6_3:w6.cell? ⟨W.heap.size,3,none⟩=some (.int .i64 f):=by have:=K6.out.cell 3;rw [show m.cells.toArray[3]?=some (.int .i64 m.node.from_) from rfl,HM.out] at this;exact this
 have y6_4:w6.cell? ⟨W.heap.size,4,none⟩=some (.int .i64 t):=by have:=K6.out.cell 4;rw [show m.cells.toArray[4]?=some (.int .i64 m.node.to_) from rfl,HM.out] at this;exact this
 clear h6 s6
 clear y5_1
 go_wp2_with fail
 refine (word_r kw_from H6.out (by simp only [List.length_append,List.length_cons,List.length_nil];omega)).mono ?_
 rintro e w7 ⟨rfl,lv7,h7,s7⟩
 have H7:=Lib.hid h7
 have S7:=Lib.hid (Stp.trans S6.out s7)
 have K7:=Lib.hid (H6.out.keep s7 K6.out (by decide) (by decide))
 have y7_3:w7.cell? ⟨W.heap.size,3,none⟩=some (.int .i64 f):=by have:=K7.out.cell 3;rw [show m.cells.toArray[3]?=some (.int .i64 m.node.from_) from rfl,HM.out] at this;exact this
 clear h7 s7
 clear y6_3 y6_4
 go_wp2_with fail
 refine (number_r f H7.out (by simp only [List.length_append,List.length_cons,List.length_nil];omega)).mono ?_
 rintro e w8 ⟨rfl,lv8,h8,s8⟩
 have H8:=Lib.hid h8
 have S8:=Lib.hid (Stp.trans S7.out s8)
 have K8:=Lib.hid (H7.out.keep s8 K7.out (by decide) (by decide))
 clear h8 s8
 clear y7_3
 go_wp2_with fail
 refine (word_r kw_to H8.out (by simp only [List.length_append,List.length_cons,List.length_nil];omega)).mono ?_
 rintro e w9 ⟨rfl,lv9,h9,s9⟩
 have H9:=Lib.hid h9
 have S9:=Lib.hid (Stp.trans S8.out s9)
 have K9:=Lib.hid (H8.out.keep s9 K8.out (by decide) (by decide))
 have y9_4:w9.cell? ⟨W.heap.size,4,none⟩=some (.int .i64 t):=by have:=K9.out.cell 4;rw [show m.cells.toArray[4]?=some (.int .i64 m.node.to_) from rfl,HM.out] at this;exact this
 clear h9 s9
 go_wp2_with fail
 refine (number_r t H9.out (by simp only [List.length_append,List.length_cons,List.length_nil];omega)).mono ?_
 rintro e w10 ⟨rfl,lv10,h10,s10⟩
 have H10:=Lib.hid h10
 have S10:=Lib.hid (Stp.trans S9.out s10)
 clear h10 s10
 clear y9_4
 go_wp2_with fail
 exact bodyPost_ret (v:=.tuple #[]) (results_none rfl _ _ _) rfl ⟨rfl,lv10,by have h9:=H10.out;simp only [List.append_assoc,List.cons_append,List.nil_append] at h9 ⊢;exact h9,S10.out⟩
theorem lrow_to {s:Bytes} {t:Int} (hf:t≠1099511627775) (hi:ns[i]?=some {node 1 [] with s:=s,from_:=0,to_:=t}):LineR ns g cap i ([wd kw_fetch,wd s]++[wd kw_from,nm 0,wd kw_to,nm t]):=by
 intro w0 W lv T hn h hT
 obtain ⟨m,b,hm,hmk,hr,_,hml⟩:=nr_rangeP hn hi
 have hlt:i<ns.length:=(List.getElem?_eq_some_iff.1 hi).1
 simp only [maxLen] at hml
 have a0:(0:Int)≤(i:Int):=by omega
 have a1:(i:Int)<(ns.length:Int):=by omega
 have a2:¬ (i:Int)<0:=by omega
 have a2':decide ((i:Int)<0)=false:=decide_eq_false a2
 have hone:=hmk.onesP
 have HR:=Lib.hid (range_kept h.below hr)
 have hth:=nd_there W
 have HS:=Lib.hid (fun w4 h4=>nd_stored (w3:=W) (w4:=w4) (m:=m) h4)
 have HM:=Lib.hid hm
 have HMK:=Lib.hid hmk
 have HN:=Lib.hid hn
 have HI:=Lib.hid hi
 have H0:=Lib.hid h
 have c0:W.cell? ⟨w0.heap.size,0,none⟩=some (.slice (some ⟨g,0,none⟩) ns.length cap):=h.box.cell 0
 have c2:W.cell? ⟨w0.heap.size,2,none⟩=some (.bool false):=h.box.cell 2
 have hl2:T.length+6≤1100:=by simp at hT;omega
 have g1:(t != 1099511627775)=true:=bne_iff_ne.2 hf
 clear hT hf
 clear hi hn hm hmk hr h hml
 go_enter Tryz.func46,Tryz.ntmps46
 go_wp2_with (first
  | (refine wpList_load_mid (by rfl) 42 (.tmp 22) (by rfl) g (i*19) (by rfl) m.cells _ HR.out undNode (by rfl) sizeNode ?_)
  | (refine wpList_store_mid (by rfl) 42 (.tmp 4) (.tmp 23) (by rfl) W.heap.size 0 m.cells.toArray (by rfl) (by rfl) hth sizeNode hone ?_
     generalize hw4:World.setCells _ _ _ _=w4
     obtain ⟨hb4,hk4⟩:=HS.out w4 hw4
     have H4:=Lib.hid (H0.out.kept hb4)
     have K4:=Lib.hid hk4
     have S4:=Lib.hid (show Stp w0.heap.size lv W lv w4 from Stp.of hb4)
     have k4:w4.cell? ⟨W.heap.size,0,none⟩=some (.int .i64 (1:Int)):=by have:=hk4.cell 0;rw [show m.cells.toArray[0]?=some (.int .i64 (m.node.kind:Int)) from rfl,HM.out] at this;exact this
     clear hw4 hb4 hk4 hth hone c0 c2))
 refine (word_r kw_fetch H4.out (by omega)).mono ?_
 rintro e w5 ⟨rfl,lv5,h5,s5⟩
 have H5:=Lib.hid h5
 have S5:=Lib.hid (Stp.trans S4.out s5)
 have K5:=Lib.hid (H4.out.keep s5 K4.out (by decide) (by decide))
 have y5_1:w5.cell? ⟨W.heap.size,1,none⟩=some (.string (BA s)):=by have:=K5.out.cell 1;rw [show m.cells.toArray[1]?=some (.string (BA m.node.s)) from rfl,HM.out] at this;exact this
 clear h5 s5
 clear k4
 go_wp2_with fail
 refine (word_r s H5.out (by simp only [List.length_append,List.length_cons,List.length_nil];omega)).mono ?_
 rintro e w6 ⟨rfl,lv6,h6,s6⟩
 have H6:=Lib.hid h6
 have S6:=Lib.hid (Stp.trans S5.out s6)
 have K6:=Lib.hid (H5.out.keep s6 K5.out (by decide) (by decide))
 have y6_3:w6.cell? ⟨W.heap.size,3,none⟩=some (.int .i64 0):=by have:=K6.out.cell 3;rw [show m.cells.toArray[3]?=some (.int .i64 m.node.from_) from rfl,HM.out] at this;exact this
 have y6_4:w6.cell? ⟨W.heap.size,4,none⟩=some (.int .i64 t):=by have:=K6.out.cell 4;rw [show m.cells.toArray[4]?=some (.int .i64 m.node.to_) from rfl,HM.out] at this;exact this
 clear h6 s6
 clear y5_1
 go_wp2_with fail
 refine (word_r kw_from H6.out (by simp only [List.length_append,List.length_cons,List.length_nil];omega)).mono ?_
 rintro e w7 ⟨rfl,lv7,h7,s7⟩
 have H7:=Lib.hid h7
 have S7:=Lib.hid (Stp.trans S6.out s7)
 have K7:=Lib.hid (H6.out.keep s7 K6.out (by decide) (by decide))
 have y7_3:w7.cell? ⟨W.heap.size,3,none⟩=some (.int .i64 0):=by have:=K7.out.cell 3;rw [show m.cells.toArray[3]?=some (.int .i64 m.node.from_) from rfl,HM.out] at this;exact this
 clear h7 s7
 clear y6_3 y6_4
 go_wp2_with fail
 refine (number_r 0 H7.out (by simp only [List.length_append,List.length_cons,List.length_nil];omega)).mono ?_
 rintro e w8 ⟨rfl,lv8,h8,s8⟩
 have H8:=Lib.hid h8
 have S8:=Lib.hid (Stp.trans S7.out s8)
 have K8:=Lib.hid (H7.out.keep s8 K7.out (by decide) (by decide))
 clear h8 s8
 clear y7_3
 go_wp2_with fail
 refine (word_r kw_to H8.out (by simp only [List.length_append,List.length_cons,List.length_nil];omega)).mono ?_
 rintro e w9 ⟨rfl,lv9,h9,s9⟩
 have H9:=Lib.hid h9
 have S9:=Lib.hid (Stp.trans S8.out s9)
 have K9:=Lib.hid (H8.out.keep s9 K8.out (by decide) (by decide))
 have y9_4:w9.cell? ⟨W.heap.size,4,none⟩=some (.int .i64 t):=by have:=K9.out.cell 4;rw [show m.cells.toArray[4]?=some (.int .i64 m.node.to_) from rfl,HM.out] at this;exact this
 clear h9 s9
 go_wp2_with fail
 refine (number_r t H9.out (by simp only [List.length_append,List.length_cons,List.length_nil];omega)).mono ?_
 rintro e w10 ⟨rfl,lv10,h10,s10⟩
 have H10:=Lib.hid h10
 have S10:=Lib.hid (Stp.trans S9.out s10)
 clear h10 s10
 clear y9_4
 go_wp2_with fail
 exact bodyPost_ret (v:=.tuple #[]) (results_none rfl _ _ _) rfl ⟨rfl,lv10,by have h9:=H10.out;simp only [List.append_assoc,List.cons_append,List.nil_append] at h9 ⊢;exact h9,S10.out⟩
theorem lrow_where {a c:Nat} {t1 t2:List Tk} (hi:ns[i]?=some (node 2 [a,c])) (hx:a<i) (hy:c<i) (rec:LineR ns g cap a t1) (rec2:LineC ns g cap c 0 t2):LineR ns g cap i (t1++[sg kw_bar,wd (stepW 2)]++t2):=by
 intro w0 W lv T hn h hT
 obtain ⟨m,b,hm,hmk,hr,_,hml⟩:=nr_rangeP hn hi
 have hlt:i<ns.length:=(List.getElem?_eq_some_iff.1 hi).1
 simp only [maxLen] at hml
 have a0:(0:Int)≤(i:Int):=by omega
 have a1:(i:Int)<(ns.length:Int):=by omega
 have a2:¬ (i:Int)<0:=by omega
 have a2':decide ((i:Int)<0)=false:=decide_eq_false a2
 have hone:=hmk.onesP
 have HR:=Lib.hid (range_kept h.below hr)
 have hth:=nd_there W
 have HS:=Lib.hid (fun w4 h4=>nd_stored (w3:=W) (w4:=w4) (m:=m) h4)
 have HM:=Lib.hid hm
 have HMK:=Lib.hid hmk
 have HN:=Lib.hid hn
 have HI:=Lib.hid hi
 have H0:=Lib.hid h
 have c0:W.cell? ⟨w0.heap.size,0,none⟩=some (.slice (some ⟨g,0,none⟩) ns.length cap):=h.box.cell 0
 have c2:W.cell? ⟨w0.heap.size,2,none⟩=some (.bool false):=h.box.cell 2
 unfold LineR at rec
 have HREC:=Lib.hid rec
 have HX:=Lib.hid hx
 unfold LineC at rec2
 have HREC2:=Lib.hid rec2
 have HY:=Lib.hid hy
 have hl2:T.length+(t1.length+t2.length+2)≤1100:=by simp at hT;omega
 clear rec rec2 hT hx hy
 clear hi hn hm hmk hr h hml
 go_enter Tryz.func46,Tryz.ntmps46
 go_wp2_with (first
  | (refine wpList_load_mid (by rfl) 42 (.tmp 22) (by rfl) g (i*19) (by rfl) m.cells _ HR.out undNode (by rfl) sizeNode ?_)
  | (refine wpList_store_mid (by rfl) 42 (.tmp 4) (.tmp 23) (by rfl) W.heap.size 0 m.cells.toArray (by rfl) (by rfl) hth sizeNode hone ?_
     generalize hw4:World.setCells _ _ _ _=w4
     obtain ⟨hb4,hk4⟩:=HS.out w4 hw4
     have H4:=Lib.hid (H0.out.kept hb4)
     have K4:=Lib.hid hk4
     have S4:=Lib.hid (show Stp w0.heap.size lv W lv w4 from Stp.of hb4)
     have k4:w4.cell? ⟨W.heap.size,0,none⟩=some (.int .i64 (2:Int)):=by have:=hk4.cell 0;rw [show m.cells.toArray[0]?=some (.int .i64 (m.node.kind:Int)) from rfl,HM.out] at this;exact this
     clear hw4 hb4 hk4 hth hone c0 c2))
 refine (below_r (k:=0) (x:=a) H4.out (by omega) HN.out HI.out rfl HX.out).mono ?_
 rintro e w5 ⟨rfl,rfl⟩
 go_wp2_with fail
 refine (HREC.out _ _ _ _ HN.out H4.out (by omega)).mono ?_
 rintro e w6 ⟨rfl,lv6,h6,s6⟩
 have H6:=Lib.hid h6
 have S6:=Lib.hid (Stp.trans S4.out s6)
 have K6:=Lib.hid (H4.out.keep s6 K4.out (by decide) (by decide))
 clear h6 s6
 clear k4
 go_wp2_with fail
 refine (sign_r kw_bar H6.out (by simp only [List.length_append,List.length_cons,List.length_nil];omega)).mono ?_
 rintro e w7 ⟨rfl,lv7,h7,s7⟩
 have H7:=Lib.hid h7
 have S7:=Lib.hid (Stp.trans S6.out s7)
 have K7:=Lib.hid (H6.out.keep s7 K6.out (by decide) (by decide))
 have y7_0:w7.cell? ⟨W.heap.size,0,none⟩=some (.int .i64 (2:Int)):=by have:=K7.out.cell 0;rw [show m.cells.toArray[0]?=some (.int .i64 (m.node.kind:Int)) from rfl,HM.out] at this;exact this
 clear h7 s7
 obtain ⟨w8,hw8⟩:∃ w8,w7.alloc (.cells #[.string ⟨#[]⟩,.string ⟨#[]⟩,.string ⟨#[119,104,101,114,101]⟩,.string ⟨#[107,101,101,112]⟩,.string ⟨#[97,108,105,103,110]⟩,.string ⟨#[103,114,111,117,112]⟩,.string ⟨#[116,111,112]⟩,.string ⟨#[106,111,105,110]⟩,.string ⟨#[117,110,105,111,110]⟩] 9)=w8:=⟨_,rfl⟩
 obtain ⟨hb8,hx8⟩:=strs_box hw8
 have H8:=Lib.hid (H7.out.kept hb8)
 have K8:=Lib.hid (K7.out.kept hb8)
 have S8:=Lib.hid (Stp.trans S7.out (Stp.of hb8))
 have HW8:=Lib.hid hw8
 clear hw8 hb8 hx8
 go_wp2_with fail
 rw [HW8.out]
 refine (word_r (stepW 2) H8.out (by simp only [List.length_append,List.length_cons,List.length_nil];omega)).mono ?_
 rintro e w9 ⟨rfl,lv9,h9,s9⟩
 have H9:=Lib.hid h9
 have S9:=Lib.hid (Stp.trans S8.out s9)
 have K9:=Lib.hid (H8.out.keep s9 K8.out (by decide) (by decide))
 have y9_0:w9.cell? ⟨W.heap.size,0,none⟩=some (.int .i64 (2:Int)):=by have:=K9.out.cell 0;rw [show m.cells.toArray[0]?=some (.int .i64 (m.node.kind:Int)) from rfl,HM.out] at this;exact this
 clear h9 s9
 clear y7_0
 go_wp2_with fail
 refine (below_r (k:=1) (x:=c) H9.out (by simp only [List.length_append,List.length_cons,List.length_nil];omega) HN.out HI.out rfl HY.out).mono ?_
 rintro e w10 ⟨rfl,rfl⟩
 go_wp2_with fail
 refine (HREC2.out _ _ _ _ HN.out H9.out (by simp only [List.length_append,List.length_cons,List.length_nil];omega)).mono ?_
 rintro e w11 ⟨rfl,lv11,h11,s11⟩
 have H11:=Lib.hid h11
 have S11:=Lib.hid (Stp.trans S9.out s11)
 clear h11 s11
 clear y9_0
 go_wp2_with fail
 exact bodyPost_end (v:=.tuple #[]) (results_none rfl _ _ _) rfl ⟨rfl,lv11,by have h9:=H11.out;simp only [List.append_assoc,List.cons_append,List.nil_append] at h9 ⊢;exact h9,S11.out⟩
theorem lrow_align {a:Nat} {t1:List Tk} {n:Int} (hi:ns[i]?=some {node 4 [a] with n:=n}) (hx:a<i) (rec:LineR ns g cap a t1):LineR ns g cap i (t1++[sg kw_bar,wd (stepW 4),nm n]):=by
 intro w0 W lv T hn h hT
 obtain ⟨m,b,hm,hmk,hr,_,hml⟩:=nr_rangeP hn hi
 have hlt:i<ns.length:=(List.getElem?_eq_some_iff.1 hi).1
 simp only [maxLen] at hml
 have a0:(0:Int)≤(i:Int):=by omega
 have a1:(i:Int)<(ns.length:Int):=by omega
 have a2:¬ (i:Int)<0:=by omega
 have a2':decide ((i:Int)<0)=false:=decide_eq_false a2
 have hone:=hmk.onesP
 have HR:=Lib.hid (range_kept h.below hr)
 have hth:=nd_there W
 have HS:=Lib.hid (fun w4 h4=>nd_stored (w3:=W) (w4:=w4) (m:=m) h4)
 have HM:=Lib.hid hm
 have HMK:=Lib.hid hmk
 have HN:=Lib.hid hn
 have HI:=Lib.hid hi
 have H0:=Lib.hid h
 have c0:W.cell? ⟨w0.heap.size,0,none⟩=some (.slice (some ⟨g,0,none⟩) ns.length cap):=h.box.cell 0
 have c2:W.cell? ⟨w0.heap.size,2,none⟩=some (.bool false):=h.box.cell 2
 unfold LineR at rec
 have HREC:=Lib.hid rec
 have HX:=Lib.hid hx
 have hl2:T.length+(t1.length+3)≤1100:=by simp at hT;omega
 clear rec hT hx
 clear hi hn hm hmk hr h hml
 go_enter Tryz.func46,Tryz.ntmps46
 go_wp2_with (first
  | (refine wpList_load_mid (by rfl) 42 (.tmp 22) (by rfl) g (i*19) (by rfl) m.cells _ HR.out undNode (by rfl) sizeNode ?_)
  | (refine wpList_store_mid (by rfl) 42 (.tmp 4) (.tmp 23) (by rfl) W.heap.size 0 m.cells.toArray (by rfl) (by rfl) hth sizeNode hone ?_
     generalize hw4:World.setCells _ _ _ _=w4
     obtain ⟨hb4,hk4⟩:=HS.out w4 hw4
     have H4:=Lib.hid (H0.out.kept hb4)
     have K4:=Lib.hid hk4
     have S4:=Lib.hid (show Stp w0.heap.size lv W lv w4 from Stp.of hb4)
     have k4:w4.cell? ⟨W.heap.size,0,none⟩=some (.int .i64 (4:Int)):=by have:=hk4.cell 0;rw [show m.cells.toArray[0]?=some (.int .i64 (m.node.kind:Int)) from rfl,HM.out] at this;exact this
     clear hw4 hb4 hk4 hth hone c0 c2))
 refine (below_r (k:=0) (x:=a) H4.out (by omega) HN.out HI.out rfl HX.out).mono ?_
 rintro e w5 ⟨rfl,rfl⟩
 go_wp2_with fail
 refine (HREC.out _ _ _ _ HN.out H4.out (by omega)).mono ?_
 rintro e w6 ⟨rfl,lv6,h6,s6⟩
 have H6:=Lib.hid h6
 have S6:=Lib.hid (Stp.trans S4.out s6)
 have K6:=Lib.hid (H4.out.keep s6 K4.out (by decide) (by decide))
 clear h6 s6
 clear k4
 go_wp2_with fail
 refine (sign_r kw_bar H6.out (by simp only [List.length_append,List.length_cons,List.length_nil];omega)).mono ?_
 rintro e w7 ⟨rfl,lv7,h7,s7⟩
 have H7:=Lib.hid h7
 have S7:=Lib.hid (Stp.trans S6.out s7)
 have K7:=Lib.hid (H6.out.keep s7 K6.out (by decide) (by decide))
 have y7_0:w7.cell? ⟨W.heap.size,0,none⟩=some (.int .i64 (4:Int)):=by have:=K7.out.cell 0;rw [show m.cells.toArray[0]?=some (.int .i64 (m.node.kind:Int)) from rfl,HM.out] at this;exact this
 clear h7 s7
 obtain ⟨w8,hw8⟩:∃ w8,w7.alloc (.cells #[.string ⟨#[]⟩,.string ⟨#[]⟩,.string ⟨#[119,104,101,114,101]⟩,.string ⟨#[107,101,101,112]⟩,.string ⟨#[97,108,105,103,110]⟩,.string ⟨#[103,114,111,117,112]⟩,.string ⟨#[116,111,112]⟩,.string ⟨#[106,111,105,110]⟩,.string ⟨#[117,110,105,111,110]⟩] 9)=w8:=⟨_,rfl⟩
 obtain ⟨hb8,hx8⟩:=strs_box hw8
 have H8:=Lib.hid (H7.out.kept hb8)
 have K8:=Lib.hid (K7.out.kept hb8)
 have S8:=Lib.hid (Stp.trans S7.out (Stp.of hb8))
 have HW8:=Lib.hid hw8
 clear hw8 hb8 hx8
 go_wp2_with fail
 rw [HW8.out]
 refine (word_r (stepW 4) H8.out (by simp only [List.length_append,List.length_cons,List.length_nil];omega)).mono ?_
 rintro e w9 ⟨rfl,lv9,h9,s9⟩
 have H9:=Lib.hid h9
 have S9:=Lib.hid (Stp.trans S8.out s9)
 have K9:=Lib.hid (H8.out.keep s9 K8.out (by decide) (by decide))
 have y9_0:w9.cell? ⟨W.heap.size,0,none⟩=some (.int .i64 (4:Int)):=by have:=K9.out.cell 0;rw [show m.cells.toArray[0]?=some (.int .i64 (m.node.kind:Int)) from rfl,HM.out] at this;exact this
 have y9_2:w9.cell? ⟨W.heap.size,2,none⟩=some (.int .i64 n):=by have:=K9.out.cell 2;rw [show m.cells.toArray[2]?=some (.int .i64 m.node.n) from rfl,HM.out] at this;exact this
 clear h9 s9
 clear y7_0
 go_wp2_with fail
 refine (number_r n H9.out (by simp only [List.length_append,List.length_cons,List.length_nil];omega)).mono ?_
 rintro e w10 ⟨rfl,lv10,h10,s10⟩
 have H10:=Lib.hid h10
 have S10:=Lib.hid (Stp.trans S9.out s10)
 clear h10 s10
 clear y9_0 y9_2
 go_wp2_with fail
 exact bodyPost_end (v:=.tuple #[]) (results_none rfl _ _ _) rfl ⟨rfl,lv10,by have h9:=H10.out;simp only [List.append_assoc,List.cons_append,List.nil_append] at h9 ⊢;exact h9,S10.out⟩
theorem lrow_top {a:Nat} {t1:List Tk} {n:Int} {s:Bytes} (hi:ns[i]?=some {node 6 [a] with n:=n,s:=s}) (hx:a<i) (rec:LineR ns g cap a t1):LineR ns g cap i (t1++[sg kw_bar,wd (stepW 6),nm n,wd kw_by,wd s]):=by
 intro w0 W lv T hn h hT
 obtain ⟨m,b,hm,hmk,hr,_,hml⟩:=nr_rangeP hn hi
 have hlt:i<ns.length:=(List.getElem?_eq_some_iff.1 hi).1
 simp only [maxLen] at hml
 have a0:(0:Int)≤(i:Int):=by omega
 have a1:(i:Int)<(ns.length:Int):=by omega
 have a2:¬ (i:Int)<0:=by omega
 have a2':decide ((i:Int)<0)=false:=decide_eq_false a2
 have hone:=hmk.onesP
 have HR:=Lib.hid (range_kept h.below hr)
 have hth:=nd_there W
 have HS:=Lib.hid (fun w4 h4=>nd_stored (w3:=W) (w4:=w4) (m:=m) h4)
 have HM:=Lib.hid hm
 have HMK:=Lib.hid hmk
 have HN:=Lib.hid hn
 have HI:=Lib.hid hi
 have H0:=Lib.hid h
 have c0:W.cell? ⟨w0.heap.size,0,none⟩=some (.slice (some ⟨g,0,none⟩) ns.length cap):=h.box.cell 0
 have c2:W.cell? ⟨w0.heap.size,2,none⟩=some (.bool false):=h.box.cell 2
 unfold LineR at rec
 have HREC:=Lib.hid rec
 have HX:=Lib.hid hx
 have hl2:T.length+(t1.length+5)≤1100:=by simp at hT;omega
 clear rec hT hx
 clear hi hn hm hmk hr h hml
 go_enter Tryz.func46,Tryz.ntmps46
 go_wp2_with (first
  | (refine wpList_load_mid (by rfl) 42 (.tmp 22) (by rfl) g (i*19) (by rfl) m.cells _ HR.out undNode (by rfl) sizeNode ?_)
  | (refine wpList_store_mid (by rfl) 42 (.tmp 4) (.tmp 23) (by rfl) W.heap.size 0 m.cells.toArray (by rfl) (by rfl) hth sizeNode hone ?_
     generalize hw4:World.setCells _ _ _ _=w4
     obtain ⟨hb4,hk4⟩:=HS.out w4 hw4
     have H4:=Lib.hid (H0.out.kept hb4)
     have K4:=Lib.hid hk4
     have S4:=Lib.hid (show Stp w0.heap.size lv W lv w4 from Stp.of hb4)
     have k4:w4.cell? ⟨W.heap.size,0,none⟩=some (.int .i64 (6:Int)):=by have:=hk4.cell 0;rw [show m.cells.toArray[0]?=some (.int .i64 (m.node.kind:Int)) from rfl,HM.out] at this;exact this
     clear hw4 hb4 hk4 hth hone c0 c2))
 refine (below_r (k:=0) (x:=a) H4.out (by omega) HN.out HI.out rfl HX.out).mono ?_
 rintro e w5 ⟨rfl,rfl⟩
 go_wp2_with fail
 refine (HREC.out _ _ _ _ HN.out H4.out (by omega)).mono ?_
 rintro e w6 ⟨rfl,lv6,h6,s6⟩
 have H6:=Lib.hid h6
 have S6:=Lib.hid (Stp.trans S4.out s6)
 have K6:=Lib.hid (H4.out.keep s6 K4.out (by decide) (by decide))
 clear h6 s6
 clear k4
 go_wp2_with fail
 refine (sign_r kw_bar H6.out (by simp only [List.length_append,List.length_cons,List.length_nil];omega)).mono ?_
 rintro e w7 ⟨rfl,lv7,h7,s7⟩
 have H7:=Lib.hid h7
 have S7:=Lib.hid (Stp.trans S6.out s7)
 have K7:=Lib.hid (H6.out.keep s7 K6.out (by decide) (by decide))
 have y7_0:w7.cell? ⟨W.heap.size,0,none⟩=some (.int .i64 (6:Int)):=by have:=K7.out.cell 0;rw [show m.cells.toArray[0]?=some (.int .i64 (m.node.kind:Int)) from rfl,HM.out] at this;exact this
 clear h7 s7
 obtain ⟨w8,hw8⟩:∃ w8,w7.alloc (.cells #[.string ⟨#[]⟩,.string ⟨#[]⟩,.string ⟨#[119,104,101,114,101]⟩,.string ⟨#[107,101,101,112]⟩,.string ⟨#[97,108,105,103,110]⟩,.string ⟨#[103,114,111,117,112]⟩,.string ⟨#[116,111,112]⟩,.string ⟨#[106,111,105,110]⟩,.string ⟨#[117,110,105,111,110]⟩] 9)=w8:=⟨_,rfl⟩
 obtain ⟨hb8,hx8⟩:=strs_box hw8
 have H8:=Lib.hid (H7.out.kept hb8)
 have K8:=Lib.hid (K7.out.kept hb8)
 have S8:=Lib.hid (Stp.trans S7.out (Stp.of hb8))
 have HW8:=Lib.hid hw8
 clear hw8 hb8 hx8
 go_wp2_with fail
 rw [HW8.out]
 refine (word_r (stepW 6) H8.out (by simp only [List.length_append,List.length_cons,List.length_nil];omega)).mono ?_
 rintro e w9 ⟨rfl,lv9,h9,s9⟩
 have H9:=Lib.hid h9
 have S9:=Lib.hid (Stp.trans S8.out s9)
 have K9:=Lib.hid (H8.out.keep s9 K8.out (by decide) (by decide))
 have y9_0:w9.cell? ⟨W.heap.size,0,none⟩=some (.int .i64 (6:Int)):=by have:=K9.out.cell 0;rw [show m.cells.toArray[0]?=some (.int .i64 (m.node.kind:Int)) from rfl,HM.out] at this;exact this
 have y9_2:w9.cell? ⟨W.heap.size,2,none⟩=some (.int .i64 n):=by have:=K9.out.cell 2;rw [show m.cells.toArray[2]?=some (.int .i64 m.node.n) from rfl,HM.out] at this;exact this
 clear h9 s9
 clear y7_0
 go_wp2_with fail
 refine (number_r n H9.out (by simp only [List.length_append,List.length_cons,List.length_nil];omega)).mono ?_
 rintro e w10 ⟨rfl,lv10,h10,s10⟩
 have H10:=Lib.hid h10
 have S10:=Lib.hid (Stp.trans S9.out s10)
 have K10:=Lib.hid (H9.out.keep s10 K9.out (by decide) (by decide))
 clear h10 s10
 clear y9_0 y9_2
 go_wp2_with fail
 refine (word_r kw_by H10.out (by simp only [List.length_append,List.length_cons,List.length_nil];omega)).mono ?_
 rintro e w11 ⟨rfl,lv11,h11,s11⟩
 have H11:=Lib.hid h11
 have S11:=Lib.hid (Stp.trans S10.out s11)
 have K11:=Lib.hid (H10.out.keep s11 K10.out (by decide) (by decide))
 have y11_1:w11.cell? ⟨W.heap.size,1,none⟩=some (.string (BA s)):=by have:=K11.out.cell 1;rw [show m.cells.toArray[1]?=some (.string (BA m.node.s)) from rfl,HM.out] at this;exact this
 clear h11 s11
 go_wp2_with fail
 refine (word_r s H11.out (by simp only [List.length_append,List.length_cons,List.length_nil];omega)).mono ?_
 rintro e w12 ⟨rfl,lv12,h12,s12⟩
 have H12:=Lib.hid h12
 have S12:=Lib.hid (Stp.trans S11.out s12)
 clear h12 s12
 clear y11_1
 go_wp2_with fail
 exact bodyPost_end (v:=.tuple #[]) (results_none rfl _ _ _) rfl ⟨rfl,lv12,by have h9:=H12.out;simp only [List.append_assoc,List.cons_append,List.nil_append] at h9 ⊢;exact h9,S12.out⟩
theorem lrow_keep {a:Nat} {t1:List Tk} {l:List Bytes} (hi:ns[i]?=some {node 3 [a] with names:=l}) (hx:a<i) (rec:LineR ns g cap a t1):LineR ns g cap i (t1++[sg kw_bar,wd (stepW 3)]++namesT l):=by
 intro w0 W lv T hn h hT
 obtain ⟨m,b,hm,hmk,hr,_,hml⟩:=nr_rangeP hn hi
 have hlt:i<ns.length:=(List.getElem?_eq_some_iff.1 hi).1
 simp only [maxLen] at hml
 have a0:(0:Int)≤(i:Int):=by omega
 have a1:(i:Int)<(ns.length:Int):=by omega
 have a2:¬ (i:Int)<0:=by omega
 have a2':decide ((i:Int)<0)=false:=decide_eq_false a2
 have hone:=hmk.onesP
 have HR:=Lib.hid (range_kept h.below hr)
 have hth:=nd_there W
 have HS:=Lib.hid (fun w4 h4=>nd_stored (w3:=W) (w4:=w4) (m:=m) h4)
 have HM:=Lib.hid hm
 have HMK:=Lib.hid hmk
 have HN:=Lib.hid hn
 have HI:=Lib.hid hi
 have H0:=Lib.hid h
 have c0:W.cell? ⟨w0.heap.size,0,none⟩=some (.slice (some ⟨g,0,none⟩) ns.length cap):=h.box.cell 0
 have c2:W.cell? ⟨w0.heap.size,2,none⟩=some (.bool false):=h.box.cell 2
 unfold LineR at rec
 have HREC:=Lib.hid rec
 have HX:=Lib.hid hx
 have hl2:T.length+(t1.length+(namesT l).length+2)≤1100:=by simp at hT;omega
 have hnm:m.node.names=l:=by rw [hm]
 have hnr:=hmk.names
 rw [hnm] at hnr
 have HNR:=Lib.hid hnr
 have hl3:l.length≤1100:=by have:=names_len l;omega
 obtain ⟨pn,cn,hnv,_,_,_⟩:=row_cells hnr
 have HNV:=Lib.hid hnv
 clear rec hT hx hnm hnr hnv
 clear hi hn hm hmk hr h hml
 go_enter Tryz.func46,Tryz.ntmps46
 go_wp2_with (first
  | (refine wpList_load_mid (by rfl) 42 (.tmp 22) (by rfl) g (i*19) (by rfl) m.cells _ HR.out undNode (by rfl) sizeNode ?_)
  | (refine wpList_store_mid (by rfl) 42 (.tmp 4) (.tmp 23) (by rfl) W.heap.size 0 m.cells.toArray (by rfl) (by rfl) hth sizeNode hone ?_
     generalize hw4:World.setCells _ _ _ _=w4
     obtain ⟨hb4,hk4⟩:=HS.out w4 hw4
     have H4:=Lib.hid (H0.out.kept hb4)
     have K4:=Lib.hid hk4
     have S4:=Lib.hid (show Stp w0.heap.size lv W lv w4 from Stp.of hb4)
     have k4:w4.cell? ⟨W.heap.size,0,none⟩=some (.int .i64 (3:Int)):=by have:=hk4.cell 0;rw [show m.cells.toArray[0]?=some (.int .i64 (m.node.kind:Int)) from rfl,HM.out] at this;exact this
     clear hw4 hb4 hk4 hth hone c0 c2))
 refine (below_r (k:=0) (x:=a) H4.out (by omega) HN.out HI.out rfl HX.out).mono ?_
 rintro e w5 ⟨rfl,rfl⟩
 go_wp2_with fail
 refine (HREC.out _ _ _ _ HN.out H4.out (by omega)).mono ?_
 rintro e w6 ⟨rfl,lv6,h6,s6⟩
 have H6:=Lib.hid h6
 have S6:=Lib.hid (Stp.trans S4.out s6)
 have K6:=Lib.hid (H4.out.keep s6 K4.out (by decide) (by decide))
 clear h6 s6
 clear k4
 go_wp2_with fail
 refine (sign_r kw_bar H6.out (by simp only [List.length_append,List.length_cons,List.length_nil];omega)).mono ?_
 rintro e w7 ⟨rfl,lv7,h7,s7⟩
 have H7:=Lib.hid h7
 have S7:=Lib.hid (Stp.trans S6.out s7)
 have K7:=Lib.hid (H6.out.keep s7 K6.out (by decide) (by decide))
 have y7_0:w7.cell? ⟨W.heap.size,0,none⟩=some (.int .i64 (3:Int)):=by have:=K7.out.cell 0;rw [show m.cells.toArray[0]?=some (.int .i64 (m.node.kind:Int)) from rfl,HM.out] at this;exact this
 clear h7 s7
 obtain ⟨w8,hw8⟩:∃ w8,w7.alloc (.cells #[.string ⟨#[]⟩,.string ⟨#[]⟩,.string ⟨#[119,104,101,114,101]⟩,.string ⟨#[107,101,101,112]⟩,.string ⟨#[97,108,105,103,110]⟩,.string ⟨#[103,114,111,117,112]⟩,.string ⟨#[116,111,112]⟩,.string ⟨#[106,111,105,110]⟩,.string ⟨#[117,110,105,111,110]⟩] 9)=w8:=⟨_,rfl⟩
 obtain ⟨hb8,hx8⟩:=strs_box hw8
 have H8:=Lib.hid (H7.out.kept hb8)
 have K8:=Lib.hid (K7.out.kept hb8)
 have S8:=Lib.hid (Stp.trans S7.out (Stp.of hb8))
 have HW8:=Lib.hid hw8
 clear hw8 hb8 hx8
 go_wp2_with fail
 rw [HW8.out]
 refine (word_r (stepW 3) H8.out (by simp only [List.length_append,List.length_cons,List.length_nil];omega)).mono ?_
 rintro e w9 ⟨rfl,lv9,h9,s9⟩
 have H9:=Lib.hid h9
 have S9:=Lib.hid (Stp.trans S8.out s9)
 have K9:=Lib.hid (H8.out.keep s9 K8.out (by decide) (by decide))
 have y9_0:w9.cell? ⟨W.heap.size,0,none⟩=some (.int .i64 (3:Int)):=by have:=K9.out.cell 0;rw [show m.cells.toArray[0]?=some (.int .i64 (m.node.kind:Int)) from rfl,HM.out] at this;exact this
 have y9_17:w9.cell? ⟨W.heap.size,17,none⟩=some (.slice pn l.length cn):=(K9.out.cell 17).trans (congrArg some HNV.out)
 clear h9 s9
 clear y7_0
 go_wp2_with fail
 have hls:=list_r HNR.out hl3 H9.out (by simp only [List.length_append,List.length_cons,List.length_nil];omega)
 rw [HNV.out] at hls
 refine (hls).mono ?_
 rintro e w10 ⟨rfl,lv10,h10,s10⟩
 have H10:=Lib.hid h10
 have S10:=Lib.hid (Stp.trans S9.out s10)
 clear h10 s10
 clear y9_0 y9_17 hls
 go_wp2_with fail
 exact bodyPost_end (v:=.tuple #[]) (results_none rfl _ _ _) rfl ⟨rfl,lv10,by have h9:=H10.out;simp only [List.append_assoc,List.cons_append,List.nil_append] at h9 ⊢;exact h9,S10.out⟩
theorem lrow_join {a c:Nat} {t1 t2:List Tk} (hi:ns[i]?=some (node 7 [a,c])) (hx:a<i) (hy:c<i) (rec:LineR ns g cap a t1) (rec2:LineR ns g cap c t2):LineR ns g cap i (t1++[sg kw_bar,wd (stepW 7),sg kw_open]++t2++[sg kw_shut]):=by
 intro w0 W lv T hn h hT
 obtain ⟨m,b,hm,hmk,hr,_,hml⟩:=nr_rangeP hn hi
 have hlt:i<ns.length:=(List.getElem?_eq_some_iff.1 hi).1
 simp only [maxLen] at hml
 have a0:(0:Int)≤(i:Int):=by omega
 have a1:(i:Int)<(ns.length:Int):=by omega
 have a2:¬ (i:Int)<0:=by omega
 have a2':decide ((i:Int)<0)=false:=decide_eq_false a2
 have hone:=hmk.onesP
 have HR:=Lib.hid (range_kept h.below hr)
 have hth:=nd_there W
 have HS:=Lib.hid (fun w4 h4=>nd_stored (w3:=W) (w4:=w4) (m:=m) h4)
 have HM:=Lib.hid hm
 have HMK:=Lib.hid hmk
 have HN:=Lib.hid hn
 have HI:=Lib.hid hi
 have H0:=Lib.hid h
 have c0:W.cell? ⟨w0.heap.size,0,none⟩=some (.slice (some ⟨g,0,none⟩) ns.length cap):=h.box.cell 0
 have c2:W.cell? ⟨w0.heap.size,2,none⟩=some (.bool false):=h.box.cell 2
 unfold LineR at rec
 have HREC:=Lib.hid rec
 have HX:=Lib.hid hx
 unfold LineR at rec2
 have HREC2:=Lib.hid rec2
 have HY:=Lib.hid hy
 have hl2:T.length+(t1.length+t2.length+4)≤1100:=by simp at hT;omega
 clear rec rec2 hT hx hy
 clear hi hn hm hmk hr h hml
 go_enter Tryz.func46,Tryz.ntmps46
 go_wp2_with (first
  | (refine wpList_load_mid (by rfl) 42 (.tmp 22) (by rfl) g (i*19) (by rfl) m.cells _ HR.out undNode (by rfl) sizeNode ?_)
  | (refine wpList_store_mid (by rfl) 42 (.tmp 4) (.tmp 23) (by rfl) W.heap.size 0 m.cells.toArray (by rfl) (by rfl) hth sizeNode hone ?_
     generalize hw4:World.setCells _ _ _ _=w4
     obtain ⟨hb4,hk4⟩:=HS.out w4 hw4
     have H4:=Lib.hid (H0.out.kept hb4)
     have K4:=Lib.hid hk4
     have S4:=Lib.hid (show Stp w0.heap.size lv W lv w4 from Stp.of hb4)
     have k4:w4.cell? ⟨W.heap.size,0,none⟩=some (.int .i64 (7:Int)):=by have:=hk4.cell 0;rw [show m.cells.toArray[0]?=some (.int .i64 (m.node.kind:Int)) from rfl,HM.out] at this;exact this
     clear hw4 hb4 hk4 hth hone c0 c2))
 refine (below_r (k:=0) (x:=a) H4.out (by omega) HN.out HI.out rfl HX.out).mono ?_
 rintro e w5 ⟨rfl,rfl⟩
 go_wp2_with fail
 refine (HREC.out _ _ _ _ HN.out H4.out (by omega)).mono ?_
 rintro e w6 ⟨rfl,lv6,h6,s6⟩
 have H6:=Lib.hid h6
 have S6:=Lib.hid (Stp.trans S4.out s6)
 have K6:=Lib.hid (H4.out.keep s6 K4.out (by decide) (by decide))
 clear h6 s6
 clear k4
 go_wp2_with fail
 refine (sign_r kw_bar H6.out (by simp only [List.length_append,List.length_cons,List.length_nil];omega)).mono ?_
 rintro e w7 ⟨rfl,lv7,h7,s7⟩
 have H7:=Lib.hid h7
 have S7:=Lib.hid (Stp.trans S6.out s7)
 have K7:=Lib.hid (H6.out.keep s7 K6.out (by decide) (by decide))
 have y7_0:w7.cell? ⟨W.heap.size,0,none⟩=some (.int .i64 (7:Int)):=by have:=K7.out.cell 0;rw [show m.cells.toArray[0]?=some (.int .i64 (m.node.kind:Int)) from rfl,HM.out] at this;exact this
 clear h7 s7
 obtain ⟨w8,hw8⟩:∃ w8,w7.alloc (.cells #[.string ⟨#[]⟩,.string ⟨#[]⟩,.string ⟨#[119,104,101,114,101]⟩,.string ⟨#[107,101,101,112]⟩,.string ⟨#[97,108,105,103,110]⟩,.string ⟨#[103,114,111,117,112]⟩,.string ⟨#[116,111,112]⟩,.string ⟨#[106,111,105,110]⟩,.string ⟨#[117,110,105,111,110]⟩] 9)=w8:=⟨_,rfl⟩
 obtain ⟨hb8,hx8⟩:=strs_box hw8
 have H8:=Lib.hid (H7.out.kept hb8)
 have K8:=Lib.hid (K7.out.kept hb8)
 have S8:=Lib.hid (Stp.trans S7.out (Stp.of hb8))
 have HW8:=Lib.hid hw8
 clear hw8 hb8 hx8
 go_wp2_with fail
 rw [HW8.out]
 refine (word_r (stepW 7) H8.out (by simp only [List.length_append,List.length_cons,List.length_nil];omega)).mono ?_
 rintro e w9 ⟨rfl,lv9,h9,s9⟩
 have H9:=Lib.hid h9
 have S9:=Lib.hid (Stp.trans S8.out s9)
 have K9:=Lib.hid (H8.out.keep s9 K8.out (by decide) (by decide))
 have y9_0:w9.cell? ⟨W.heap.size,0,none⟩=some (.int .i64 (7:Int)):=by have:=K9.out.cell 0;rw [show m.cells.toArray[0]?=some (.int .i64 (m.node.kind:Int)) from rfl,HM.out] at this;exact this
 clear h9 s9
 clear y7_0
 go_wp2_with fail
 refine (sign_r kw_open H9.out (by simp only [List.length_append,List.length_cons,List.length_nil];omega)).mono ?_
 rintro e w10 ⟨rfl,lv10,h10,s10⟩
 have H10:=Lib.hid h10
 have S10:=Lib.hid (Stp.trans S9.out s10)
 have K10:=Lib.hid (H9.out.keep s10 K9.out (by decide) (by decide))
 clear h10 s10
 clear y9_0
 go_wp2_with fail
 refine (below_r (k:=1) (x:=c) H10.out (by simp only [List.length_append,List.length_cons,List.length_nil];omega) HN.out HI.out rfl HY.out).mono ?_
 rintro e w11 ⟨rfl,rfl⟩
 go_wp2_with fail
 refine (HREC2.out _ _ _ _ HN.out H10.out (by simp only [List.length_append,List.length_cons,List.length_nil];omega)).mono ?_
 rintro e w12 ⟨rfl,lv12,h12,s12⟩
 have H12:=Lib.hid h12
 have S12:=Lib.hid (Stp.trans S10.out s12)
 clear h12 s12
 go_wp2_with fail
 refine (sign_r kw_shut H12.out (by simp only [List.length_append,List.length_cons,List.length_nil];omega)).mono ?_
 rintro e w13 ⟨rfl,lv13,h13,s13⟩
 have H13:=Lib.hid h13
 have S13:=Lib.hid (Stp.trans S12.out s13)
 clear h13 s13
 go_wp2_with fail
 exact bodyPost_end (v:=.tuple #[]) (results_none rfl _ _ _) rfl ⟨rfl,lv13,by have h9:=H13.out;simp only [List.append_assoc,List.cons_append,List.nil_append] at h9 ⊢;exact h9,S13.out⟩
theorem lrow_union {a c:Nat} {t1 t2:List Tk} (hi:ns[i]?=some (node 8 [a,c])) (hx:a<i) (hy:c<i) (rec:LineR ns g cap a t1) (rec2:LineR ns g cap c t2):LineR ns g cap i (t1++[sg kw_bar,wd (stepW 8),sg kw_open]++t2++[sg kw_shut]):=by
 intro w0 W lv T hn h hT
 obtain ⟨m,b,hm,hmk,hr,_,hml⟩:=nr_rangeP hn hi
 have hlt:i<ns.length:=(List.getElem?_eq_some_iff.1 hi).1
 simp only [maxLen] at hml
 have a0:(0:Int)≤(i:Int):=by omega
 have a1:(i:Int)<(ns.length:Int):=by omega
 have a2:¬ (i:Int)<0:=by omega
 have a2':decide ((i:Int)<0)=false:=decide_eq_false a2
 have hone:=hmk.onesP
 have HR:=Lib.hid (range_kept h.below hr)
 have hth:=nd_there W
 have HS:=Lib.hid (fun w4 h4=>nd_stored (w3:=W) (w4:=w4) (m:=m) h4)
 have HM:=Lib.hid hm
 have HMK:=Lib.hid hmk
 have HN:=Lib.hid hn
 have HI:=Lib.hid hi
 have H0:=Lib.hid h
 have c0:W.cell? ⟨w0.heap.size,0,none⟩=some (.slice (some ⟨g,0,none⟩) ns.length cap):=h.box.cell 0
 have c2:W.cell? ⟨w0.heap.size,2,none⟩=some (.bool false):=h.box.cell 2
 unfold LineR at rec
 have HREC:=Lib.hid rec
 have HX:=Lib.hid hx
 unfold LineR at rec2
 have HREC2:=Lib.hid rec2
 have HY:=Lib.hid hy
 have hl2:T.length+(t1.length+t2.length+4)≤1100:=by simp at hT;omega
 clear rec rec2 hT hx hy
 clear hi hn hm hmk hr h hml
 go_enter Tryz.func46,Tryz.ntmps46
 go_wp2_with (first
  | (refine wpList_load_mid (by rfl) 42 (.tmp 22) (by rfl) g (i*19) (by rfl) m.cells _ HR.out undNode (by rfl) sizeNode ?_)
  | (refine wpList_store_mid (by rfl) 42 (.tmp 4) (.tmp 23) (by rfl) W.heap.size 0 m.cells.toArray (by rfl) (by rfl) hth sizeNode hone ?_
     generalize hw4:World.setCells _ _ _ _=w4
     obtain ⟨hb4,hk4⟩:=HS.out w4 hw4
     have H4:=Lib.hid (H0.out.kept hb4)
     have K4:=Lib.hid hk4
     have S4:=Lib.hid (show Stp w0.heap.size lv W lv w4 from Stp.of hb4)
     have k4:w4.cell? ⟨W.heap.size,0,none⟩=some (.int .i64 (8:Int)):=by have:=hk4.cell 0;rw [show m.cells.toArray[0]?=some (.int .i64 (m.node.kind:Int)) from rfl,HM.out] at this;exact this
     clear hw4 hb4 hk4 hth hone c0 c2))
 refine (below_r (k:=0) (x:=a) H4.out (by omega) HN.out HI.out rfl HX.out).mono ?_
 rintro e w5 ⟨rfl,rfl⟩
 go_wp2_with fail
 refine (HREC.out _ _ _ _ HN.out H4.out (by omega)).mono ?_
 rintro e w6 ⟨rfl,lv6,h6,s6⟩
 have H6:=Lib.hid h6
 have S6:=Lib.hid (Stp.trans S4.out s6)
 have K6:=Lib.hid (H4.out.keep s6 K4.out (by decide) (by decide))
 clear h6 s6
 clear k4
 go_wp2_with fail
 refine (sign_r kw_bar H6.out (by simp only [List.length_append,List.length_cons,List.length_nil];omega)).mono ?_
 rintro e w7 ⟨rfl,lv7,h7,s7⟩
 have H7:=Lib.hid h7
 have S7:=Lib.hid (Stp.trans S6.out s7)
 have K7:=Lib.hid (H6.out.keep s7 K6.out (by decide) (by decide))
 have y7_0:w7.cell? ⟨W.heap.size,0,none⟩=some (.int .i64 (8:Int)):=by have:=K7.out.cell 0;rw [show m.cells.toArray[0]?=some (.int .i64 (m.node.kind:Int)) from rfl,HM.out] at this;exact this
 clear h7 s7
 obtain ⟨w8,hw8⟩:∃ w8,w7.alloc (.cells #[.string ⟨#[]⟩,.string ⟨#[]⟩,.string ⟨#[119,104,101,114,101]⟩,.string ⟨#[107,101,101,112]⟩,.string ⟨#[97,108,105,103,110]⟩,.string ⟨#[103,114,111,117,112]⟩,.string ⟨#[116,111,112]⟩,.string ⟨#[106,111,105,110]⟩,.string ⟨#[117,110,105,111,110]⟩] 9)=w8:=⟨_,rfl⟩
 obtain ⟨hb8,hx8⟩:=strs_box hw8
 have H8:=Lib.hid (H7.out.kept hb8)
 have K8:=Lib.hid (K7.out.kept hb8)
 have S8:=Lib.hid (Stp.trans S7.out (Stp.of hb8))
 have HW8:=Lib.hid hw8
 clear hw8 hb8 hx8
 go_wp2_with fail
 rw [HW8.out]
 refine (word_r (stepW 8) H8.out (by simp only [List.length_append,List.length_cons,List.length_nil];omega)).mono ?_
 rintro e w9 ⟨rfl,lv9,h9,s9⟩
 have H9:=Lib.hid h9
 have S9:=Lib.hid (Stp.trans S8.out s9)
 have K9:=Lib.hid (H8.out.keep s9 K8.out (by decide) (by decide))
 have y9_0:w9.cell? ⟨W.heap.size,0,none⟩=some (.int .i64 (8:Int)):=by have:=K9.out.cell 0;rw [show m.cells.toArray[0]?=some (.int .i64 (m.node.kind:Int)) from rfl,HM.out] at this;exact this
 clear h9 s9
 clear y7_0
 go_wp2_with fail
 refine (sign_r kw_open H9.out (by simp only [List.length_append,List.length_cons,List.length_nil];omega)).mono ?_
 rintro e w10 ⟨rfl,lv10,h10,s10⟩
 have H10:=Lib.hid h10
 have S10:=Lib.hid (Stp.trans S9.out s10)
 have K10:=Lib.hid (H9.out.keep s10 K9.out (by decide) (by decide))
 clear h10 s10
 clear y9_0
 go_wp2_with fail
 refine (below_r (k:=1) (x:=c) H10.out (by simp only [List.length_append,List.length_cons,List.length_nil];omega) HN.out HI.out rfl HY.out).mono ?_
 rintro e w11 ⟨rfl,rfl⟩
 go_wp2_with fail
 refine (HREC2.out _ _ _ _ HN.out H10.out (by simp only [List.length_append,List.length_cons,List.length_nil];omega)).mono ?_
 rintro e w12 ⟨rfl,lv12,h12,s12⟩
 have H12:=Lib.hid h12
 have S12:=Lib.hid (Stp.trans S10.out s12)
 clear h12 s12
 go_wp2_with fail
 refine (sign_r kw_shut H12.out (by simp only [List.length_append,List.length_cons,List.length_nil];omega)).mono ?_
 rintro e w13 ⟨rfl,lv13,h13,s13⟩
 have H13:=Lib.hid h13
 have S13:=Lib.hid (Stp.trans S12.out s13)
 clear h13 s13
 go_wp2_with fail
 exact bodyPost_end (v:=.tuple #[]) (results_none rfl _ _ _) rfl ⟨rfl,lv13,by have h9:=H13.out;simp only [List.append_assoc,List.cons_append,List.nil_append] at h9 ⊢;exact h9,S13.out⟩
end
end Go.Proofs.YtnaehhpikhlppaaGreatDoor
