/- Gb Gc Gd. -/
import Derived.Test.YtepoclhdklgnhaaGreatDoorRV17
set_option maxRecDepth 100000
set_option maxHeartbeats 40000000
set_option linter.unusedVariables false
set_option linter.unusedSimpArgs false
namespace Go.Proofs.YtepoclhdklgnhaaGreatDoor
open Go.RowKit Go.Proofs
structure RC (B g n:Nat) (w:World) (arrs:List Arr) (L:Int) (an ln:List (List UInt8)) (code:List Ins) (f:List UInt8→Option Int) (N:Nat) (ws:List Wd) (v:RVs):Prop where
 row:rowV w g 113 (rdC v.A v.k v.c n (.slice v.Aa v.na v.ca) (.int .i64 L) (.slice v.Ac v.nc v.cc) (.slice v.An v.nn v.cn) (.slice v.Al v.nl v.cl) (.map (some v.m)))
 wm:WordsM B w v.A v.k v.c ws
 hk:v.k≤9000
 hB:B≤g
 hm:B≤v.m
 oa:OwnS encAr 2 w B 68 v.Aa v.na v.ca arrs
 oc:OwnS encIn 2 w B 53 v.Ac v.nc v.cc code
 on:OwnS encSt 1 w B 9 v.An v.nn v.cn an
 ol:OwnS encSt 1 w B 9 v.Al v.nl v.cl ln
 ne:∀ b,(Value.slice v.An v.nn v.cn).ownBlock=some b→some b≠(Value.slice v.Al v.nl v.cl).ownBlock
 mp:MapIs Tryz.prog 9 3 .i64 w v.m N f
 err:ErrR w
 hE:2 < B
 dcl:DeclM w (g+2) (g+1) g
 hdm:g+2≠v.m
section
variable {B g n : Nat} {w X : World} {arrs : List Arr} {L : Int} {an ln : List (List UInt8)} {code : List Ins} {f : List UInt8 → Option Int} {N : Nat} {ws : List Wd} {v : RVs} {s : AS}
theorem RD.toRC(h:RD B g n w s ws v):RC B g n w s.arrs s.ln.length s.an s.ln s.code (conF s) s.cn.length ws v:=⟨h.row,h.wm,h.hk,h.hB,h.hm,h.oa,h.oc,h.on,h.ol,h.ne,h.mp,h.err,h.hE,h.dcl,h.hdm⟩
theorem RC.toRD(h:RC B g n w s.arrs s.ln.length s.an s.ln s.code (conF s) s.cn.length ws v)(hf:s.cn.length+ws.length≤9000)(fm:Formed s):RD B g n w s ws v:=⟨h.row,h.wm,h.hk,h.hB,h.hm,h.oa,h.oc,h.on,h.ol,h.ne,h.mp,hf,h.err,h.hE,fm,h.dcl,h.hdm⟩
theorem RC.below(h:RC B g n w arrs L an ln code f N ws v)(hb:Below w.heap.size w X):RC B g n X arrs L an ln code f N ws v:=
 ⟨h.row.below hb h.row.lt,h.wm.below (hb.mono (Nat.le_trans h.hB (Nat.le_of_lt h.row.lt))),h.hk,h.hB,h.hm,h.oa.below hb,h.oc.below hb,h.on.below hb,h.ol.below hb,h.ne,h.mp.below hb,h.err.below hb,h.hE,h.dcl.below hb,h.hdm⟩
theorem RC.le(h:RC B g n w arrs L an ln code f N ws v):B≤w.heap.size:=Nat.le_trans h.hB (Nat.le_of_lt h.row.lt)
theorem RC.m_ne(h:RC B g n w arrs L an ln code f N ws v):v.m≠g:=fun e=>by
 obtain⟨o,ho,hc⟩:=h.mp.isMap
 have:=h.row
 unfold rowV at this
 rw [e,this] at ho
 injection ho with ho
 rw [←ho] at hc
 cases hc
theorem Below.setG{B g j:Nat}{w:World}(hB:B≤g)(u:Value):Below B w (w.setCell ⟨g,j,none⟩ u):=⟨rfl,rfl,rfl,by simp [World.setCell],fun k hk=>Below.heap_setCell w ⟨g,j,none⟩ u k (by show k≠g;omega)⟩
theorem RC.push_arrs(h:RC B g n w arrs L an ln code f N ws v){A2:Option Addr}{c2:Nat}{y:Arr}(ho:OwnS encAr 2 X B 68 A2 (v.na+1) c2 (arrs++[y]))(hb:Below B w X)(hg:w.grownBy X (Value.slice v.Aa v.na v.ca).ownBlock)
  (hf:∀ b,(Value.slice A2 (v.na+1) c2).ownBlock=some b→(Value.slice v.Aa v.na v.ca).ownBlock=some b∨w.heap.size≤b) :
  RC B g n (X.setCell ⟨g,2,none⟩ (.slice A2 (v.na+1) c2)) (arrs++[y]) L an ln code f N ws { v with Aa:=A2,na:=v.na+1,ca:=c2 }:=by
 have hne:=h.oa.ne_row h.row (by decide)
 have rX:=h.row.grown hg (fun e=>hne _ e.symm rfl)
 have g2:X.grownBy (X.setCell ⟨g,2,none⟩ (.slice A2 (v.na+1) c2)) (some g):=grownBy.setCell' (World.grownBy.refl X (some g)) _
 have oc1:=h.oc.grown hg (fun b hb=>h.oc.ne_own h.oa (by decide) b hb)
 have on1:=h.on.grown hg (fun b hb=>h.on.ne_own h.oa (by decide) b hb)
 have ol1:=h.ol.grown hg (fun b hb=>h.ol.ne_own h.oa (by decide) b hb)
 obtain⟨om,hom,hmc⟩:=h.mp.isMap
 have mp1:=h.mp.same (hg.block _ h.mp.lt (fun e=>h.oa.ne_map hom hmc _ e.symm rfl))
 have mp2:MapIs Tryz.prog 9 3 .i64 (X.setCell ⟨g,2,none⟩ (.slice A2 (v.na+1) c2)) v.m N f:=mp1.same (Below.heap_setCell X ⟨g,2,none⟩ _ v.m h.m_ne)
 have hbs:=Below.setG (w:=X) (j:=2) h.hB (.slice A2 (v.na+1) c2)
 have er1:=h.err.grown hg (fun b hb=>Nat.lt_of_lt_of_le h.hE (h.oa.blk hb).2.1)
 have dn:=h.dcl.ne_own h.oa (by decide)
 have dc1:=h.dcl.grown hg dn.1 dn.2
 exact⟨rX.set 2 _,(h.wm.below hb).below hbs,h.hk,h.hB,h.hm,ho.grown g2 (ho.ne_row rX (by decide)),oc1.grown g2 (oc1.ne_row rX (by decide)),on1.grown g2 (on1.ne_row rX (by decide)),ol1.grown g2 (ol1.ne_row rX (by decide)),h.ne,mp2,er1.grown g2 (fun b hb=>by injection hb with hb;rw [←hb];exact Nat.lt_of_lt_of_le h.hE h.hB),h.hE,dc1.setRow rX (by decide) _,h.hdm⟩
theorem RC.push_code(h:RC B g n w arrs L an ln code f N ws v){A2:Option Addr}{c2:Nat}{y:Ins}(ho:OwnS encIn 2 X B 53 A2 (v.nc+1) c2 (code++[y]))(hb:Below B w X)(hg:w.grownBy X (Value.slice v.Ac v.nc v.cc).ownBlock)
  (hf:∀ b,(Value.slice A2 (v.nc+1) c2).ownBlock=some b→(Value.slice v.Ac v.nc v.cc).ownBlock=some b∨w.heap.size≤b) :
  RC B g n (X.setCell ⟨g,4,none⟩ (.slice A2 (v.nc+1) c2)) arrs L an ln (code++[y]) f N ws { v with Ac:=A2,nc:=v.nc+1,cc:=c2 }:=by
 have hne:=h.oc.ne_row h.row (by decide)
 have rX:=h.row.grown hg (fun e=>hne _ e.symm rfl)
 have g2:X.grownBy (X.setCell ⟨g,4,none⟩ (.slice A2 (v.nc+1) c2)) (some g):=grownBy.setCell' (World.grownBy.refl X (some g)) _
 have oa1:=h.oa.grown hg (fun b hb=>h.oa.ne_own h.oc (by decide) b hb)
 have on1:=h.on.grown hg (fun b hb=>h.on.ne_own h.oc (by decide) b hb)
 have ol1:=h.ol.grown hg (fun b hb=>h.ol.ne_own h.oc (by decide) b hb)
 obtain⟨om,hom,hmc⟩:=h.mp.isMap
 have mp1:=h.mp.same (hg.block _ h.mp.lt (fun e=>h.oc.ne_map hom hmc _ e.symm rfl))
 have mp2:MapIs Tryz.prog 9 3 .i64 (X.setCell ⟨g,4,none⟩ (.slice A2 (v.nc+1) c2)) v.m N f:=mp1.same (Below.heap_setCell X ⟨g,4,none⟩ _ v.m h.m_ne)
 have hbs:=Below.setG (w:=X) (j:=4) h.hB (.slice A2 (v.nc+1) c2)
 have er1:=h.err.grown hg (fun b hb=>Nat.lt_of_lt_of_le h.hE (h.oc.blk hb).2.1)
 have dn:=h.dcl.ne_own h.oc (by decide)
 have dc1:=h.dcl.grown hg dn.1 dn.2
 exact⟨rX.set 4 _,(h.wm.below hb).below hbs,h.hk,h.hB,h.hm,oa1.grown g2 (oa1.ne_row rX (by decide)),ho.grown g2 (ho.ne_row rX (by decide)),on1.grown g2 (on1.ne_row rX (by decide)),ol1.grown g2 (ol1.ne_row rX (by decide)),h.ne,mp2,er1.grown g2 (fun b hb=>by injection hb with hb;rw [←hb];exact Nat.lt_of_lt_of_le h.hE h.hB),h.hE,dc1.setRow rX (by decide) _,h.hdm⟩
theorem RC.push_an(h:RC B g n w arrs L an ln code f N ws v){A2:Option Addr}{c2:Nat}{y:List UInt8}(ho:OwnS encSt 1 X B 9 A2 (v.nn+1) c2 (an++[y]))(hb:Below B w X)(hg:w.grownBy X (Value.slice v.An v.nn v.cn).ownBlock)
  (hf:∀ b,(Value.slice A2 (v.nn+1) c2).ownBlock=some b→(Value.slice v.An v.nn v.cn).ownBlock=some b∨w.heap.size≤b) :
  RC B g n (X.setCell ⟨g,5,none⟩ (.slice A2 (v.nn+1) c2)) arrs L (an++[y]) ln code f N ws { v with An:=A2,nn:=v.nn+1,cn:=c2 }:=by
 have hne:=h.on.ne_row h.row (by decide)
 have rX:=h.row.grown hg (fun e=>hne _ e.symm rfl)
 have g2:X.grownBy (X.setCell ⟨g,5,none⟩ (.slice A2 (v.nn+1) c2)) (some g):=grownBy.setCell' (World.grownBy.refl X (some g)) _
 have oa1:=h.oa.grown hg (fun b hb=>h.oa.ne_own h.on (by decide) b hb)
 have oc1:=h.oc.grown hg (fun b hb=>h.oc.ne_own h.on (by decide) b hb)
 have ol1:=h.ol.grown hg (fun b hb e=>h.ne b e.symm hb.symm)
 obtain⟨om,hom,hmc⟩:=h.mp.isMap
 have mp1:=h.mp.same (hg.block _ h.mp.lt (fun e=>h.on.ne_map hom hmc _ e.symm rfl))
 have mp2:MapIs Tryz.prog 9 3 .i64 (X.setCell ⟨g,5,none⟩ (.slice A2 (v.nn+1) c2)) v.m N f:=mp1.same (Below.heap_setCell X ⟨g,5,none⟩ _ v.m h.m_ne)
 have hbs:=Below.setG (w:=X) (j:=5) h.hB (.slice A2 (v.nn+1) c2)
 have er1:=h.err.grown hg (fun b hb=>Nat.lt_of_lt_of_le h.hE (h.on.blk hb).2.1)
 have dn:=h.dcl.ne_own h.on (by decide)
 have dc1:=h.dcl.grown hg dn.1 dn.2
 exact⟨rX.set 5 _,(h.wm.below hb).below hbs,h.hk,h.hB,h.hm,oa1.grown g2 (oa1.ne_row rX (by decide)),oc1.grown g2 (oc1.ne_row rX (by decide)),ho.grown g2 (ho.ne_row rX (by decide)),ol1.grown g2 (ol1.ne_row rX (by decide)),(fun b hb=>by
  rcases hf b hb with h1 | h1
  ·exact h.ne b h1
  ·intro e
   have:=(h.ol.blk e.symm).1
   omega),mp2,er1.grown g2 (fun b hb=>by injection hb with hb;rw [←hb];exact Nat.lt_of_lt_of_le h.hE h.hB),h.hE,dc1.setRow rX (by decide) _,h.hdm⟩
theorem RC.push_ln(h:RC B g n w arrs L an ln code f N ws v){A2:Option Addr}{c2:Nat}{y:List UInt8}(ho:OwnS encSt 1 X B 9 A2 (v.nl+1) c2 (ln++[y]))(hb:Below B w X)(hg:w.grownBy X (Value.slice v.Al v.nl v.cl).ownBlock)
  (hf:∀ b,(Value.slice A2 (v.nl+1) c2).ownBlock=some b→(Value.slice v.Al v.nl v.cl).ownBlock=some b∨w.heap.size≤b) :
  RC B g n (X.setCell ⟨g,6,none⟩ (.slice A2 (v.nl+1) c2)) arrs L an (ln++[y]) code f N ws { v with Al:=A2,nl:=v.nl+1,cl:=c2 }:=by
 have hne:=h.ol.ne_row h.row (by decide)
 have rX:=h.row.grown hg (fun e=>hne _ e.symm rfl)
 have g2:X.grownBy (X.setCell ⟨g,6,none⟩ (.slice A2 (v.nl+1) c2)) (some g):=grownBy.setCell' (World.grownBy.refl X (some g)) _
 have oa1:=h.oa.grown hg (fun b hb=>h.oa.ne_own h.ol (by decide) b hb)
 have oc1:=h.oc.grown hg (fun b hb=>h.oc.ne_own h.ol (by decide) b hb)
 have on1:=h.on.grown hg (fun b hb=>h.ne b hb)
 obtain⟨om,hom,hmc⟩:=h.mp.isMap
 have mp1:=h.mp.same (hg.block _ h.mp.lt (fun e=>h.ol.ne_map hom hmc _ e.symm rfl))
 have mp2:MapIs Tryz.prog 9 3 .i64 (X.setCell ⟨g,6,none⟩ (.slice A2 (v.nl+1) c2)) v.m N f:=mp1.same (Below.heap_setCell X ⟨g,6,none⟩ _ v.m h.m_ne)
 have hbs:=Below.setG (w:=X) (j:=6) h.hB (.slice A2 (v.nl+1) c2)
 have er1:=h.err.grown hg (fun b hb=>Nat.lt_of_lt_of_le h.hE (h.ol.blk hb).2.1)
 have dn:=h.dcl.ne_own h.ol (by decide)
 have dc1:=h.dcl.grown hg dn.1 dn.2
 exact⟨rX.set 6 _,(h.wm.below hb).below hbs,h.hk,h.hB,h.hm,oa1.grown g2 (oa1.ne_row rX (by decide)),oc1.grown g2 (oc1.ne_row rX (by decide)),on1.grown g2 (on1.ne_row rX (by decide)),ho.grown g2 (ho.ne_row rX (by decide)),(fun b hb e=>by
  rcases hf b e.symm with h1 | h1
  ·exact h.ne b hb h1.symm
  ·have:=(h.on.blk hb).1
   omega),mp2,er1.grown g2 (fun b hb=>by injection hb with hb;rw [←hb];exact Nat.lt_of_lt_of_le h.hE h.hB),h.hE,dc1.setRow rX (by decide) _,h.hdm⟩
theorem RC.setL(h:RC B g n w arrs L an ln code f N ws v)(L':Int):RC B g n (w.setCell ⟨g,3,none⟩ (.int .i64 L')) arrs L' an ln code f N ws v:=by
 have g2:w.grownBy (w.setCell ⟨g,3,none⟩ (.int .i64 L')) (some g):=grownBy.setCell' (World.grownBy.refl w (some g)) _
 have hbs:=Below.setG (w:=w) (j:=3) h.hB (.int .i64 L')
 exact⟨h.row.set 3 _,h.wm.below hbs,h.hk,h.hB,h.hm,h.oa.grown g2 (h.oa.ne_row h.row (by decide)),h.oc.grown g2 (h.oc.ne_row h.row (by decide)),h.on.grown g2 (h.on.ne_row h.row (by decide)),h.ol.grown g2 (h.ol.ne_row h.row (by decide)),h.ne,h.mp.same (Below.heap_setCell w ⟨g,3,none⟩ _ v.m h.m_ne),h.err.grown g2 (fun b hb=>by injection hb with hb;rw [←hb];exact Nat.lt_of_lt_of_le h.hE h.hB),h.hE,h.dcl.setRow h.row (by decide) _,h.hdm⟩
theorem RC.setM(h:RC B g n w arrs L an ln code f N ws v){f':List UInt8→Option Int}(hmp:MapIs Tryz.prog 9 3 .i64 X v.m (N+1) f')(hg:w.grownBy X (some v.m)):RC B g n X arrs L an ln code f' (N+1) ws v:=by
 obtain⟨om,hom,hmc⟩:=h.mp.isMap
 have hb:Below B w X:=⟨hg.os,hg.tape,hg.output,hg.size,fun k hk=>hg.block k (Nat.lt_of_lt_of_le hk h.le) (fun e=>by injection e with e;have:=h.hm;omega)⟩
 exact⟨h.row.grown hg (fun e=>h.m_ne (by injection e with e;exact e.symm)),h.wm.below hb,h.hk,h.hB,h.hm,h.oa.grown hg (fun b hb e=>h.oa.ne_map hom hmc b hb (by injection e)),h.oc.grown hg (fun b hb e=>h.oc.ne_map hom hmc b hb (by injection e)),h.on.grown hg (fun b hb e=>h.on.ne_map hom hmc b hb (by injection e)),h.ol.grown hg (fun b hb e=>h.ol.ne_map hom hmc b hb (by injection e)),h.ne,hmp,h.err.grown hg (fun b hb=>by injection hb with hb;rw [←hb];exact Nat.lt_of_lt_of_le h.hE h.hm),h.hE,h.dcl.grown hg (fun e=>h.hdm (by injection e)) (fun e=>by
  injection e with e
  have h2:=h.dcl.2
  unfold rowV at h2
  have e':g+1=v.m:=e
  rw [e',hom] at h2
  injection h2 with h2
  rw [h2] at hmc
  cases hmc),h.hdm⟩
end
def DoesL(B g n:Nat)(w:World)(r:AR)(e:Ending)(w':World):Prop:=match r with
 | .bad a er=>FailsB B w a er e w'
 | .ok s ws=>e=.returned (.tuple #[])∧Below B w w'∧∃ v,RD B g n w' s ws v
end Go.Proofs.YtepoclhdklgnhaaGreatDoor
namespace Go.Proofs.YtepoclhdklgnhaaGreatDoor
open Go.RowKit Go.Proofs
theorem step_pushT{P:Program}{α:Type}{enc:α→List Value}{sz:Nat}{w:World}{B:Nat}{e t:TypeId}{A:Option Addr}{n c:Nat}{xs:List α}{z:Value}{bytes:Nat}
 {ops:Array Oper} {o:Oper} {a:Act} {K:Act→World→Prop} {Q:Exit→Act→World→Prop} {E:Prop} (hgd:o.guard=none) (s x:Operand) (ho:o.op=.call { callee:=.builtin .append,args:=#[s,x],argTypes:=#[t,t] })
  (ht:P.underlying t=some (.slice e)) (hi:(P.info? e).map (fun i=>(i.zero,i.size,i.bytes))=some (some z,sz,bytes))
  (h1:∀ x,∀ u∈enc x,u.oneCell'=true) (hz:z.cells.size=sz) (hl:∀ x,(enc x).length=sz) (hsz:0 < sz)
  (hs:a.eval s=.slice A n c) (hown:OwnS enc sz w B e A n c xs) (hB:B≤w.heap.size) (y:α) (cs:Array Value) (hcs:(enc y).toArray=cs)
  (hx:a.eval x=.slice (some ⟨w.heap.size,0,none⟩) 1 1) (hml:n+1≤maxLen) (hby:(n+1) * bytes≤140737488355328)
  (h:∀ A2 c2 w',OwnS enc sz w' B e A2 (n+1) c2 (xs++[y])→Below B w w'→w.grownBy w' (Value.slice A n c).ownBlock→(∀ b,(Value.slice A2 (n+1) c2).ownBlock=some b→(Value.slice A n c).ownBlock=some b∨w.heap.size≤b)→K (a.put o.dst (.slice A2 (n+1) c2)) w') :
  if Region.wanted o (yielded ops a.tmps)=true then Oper.wp P o a (w.alloc (.cells cs e)) K Q else E:=by
 subst hcs
 rw [if_pos (by simp [Region.wanted,hgd])]
 obtain⟨A2,c2,w',hrun,h2,h3,h4,h5⟩:=run_append_ownS' (P:=P) o.type ht hi h1 hz hl hsz hown hB y hml hby
 unfold Oper.wp execOp
 simp only [ho,resolve,invoke,builtin,Sem.run_bind,Sem.run_pure,Result.andThen_ok,List.map_toArray,List.map_cons,List.map_nil,hs,hx,hrun]
 exact h A2 c2 w' h2 h3 h4 h5
theorem local_ok(B g n:Nat)(v:RVs)(s:AS)(ws:List Wd)(w:World)(h:RD B g n w s ws v)(hF:freshE s (nextW n ws).1=0)(hL:s.ln.length < 16) :
  Calls Tryz.prog 122 #[.pointer (some ⟨g,0,none⟩)] w fun e w'=>e=.returned (.tuple #[])∧Below B w w'∧∃ v',RD B g n w' { s with ln:=s.ln++[(nextW n ws).1] } ws.tail v':=by
 have H1:=asmFresh_ok B g n v s ws w h hF
 obtain⟨x,z,hx⟩:∃ x z,nextW n ws=(x,z):=⟨_,_,rfl⟩
 rw [hx] at H1 ⊢
 dsimp only at H1 ⊢
 have H1':=Lib.hid H1
 have hgl:=h.row.lt
 have hnl:v.nl=s.ln.length:=(h.ol.length (fun _=>rfl) (by decide)).symm
 have d16:decide ((v.nl:Int) < 16)=true:=by simp;omega
 have d16':decide (v.nl < 16)=true:=by simp;omega
 have hm:Hid (v.nl+1≤maxLen∧(v.nl+1) * 16≤140737488355328):=⟨by simp [maxLen];omega,by omega⟩
 have hnl':=Lib.hid hnl
 clear hnl
 clear H1
 go_enter Tryz.func122,Tryz.ntmps122
 go_wp2_with fail
 refine H1'.out.mono ?_
 rintro e w1 ⟨rfl,hN⟩
 obtain⟨A',k',c',D1,hg1⟩:=h.next (ws':=ws.tail) (by rw [List.length_tail];omega) hN
 have hB1:=Lib.hid (h.toBelow hg1)
 have hfew:=Lib.hid h.few
 have hfm:=Lib.hid h.fm
 clear H1' hN h
 have r2:=rowV.new w1 172 #[.string (strB x),.int .i64 (z:Int)]
 have hl2:=r2.lt
 have b12:Below w1.heap.size w1 (w1.alloc (.cells #[.string (strB x),.int .i64 (z:Int)] 172)):=balloc (Below.refl _ _) _
 obtain⟨w2,hw2⟩:∃ w2,w2=w1.alloc (.cells #[.string (strB x),.int .i64 (z:Int)] 172):=⟨_,rfl⟩
 rw [←hw2] at r2 hl2 b12
 obtain⟨a0,a1⟩:=two_cellsV r2
 have D2:=D1.below b12
 have c6:w2.cell? ⟨g,6,none⟩=some (.slice v.Al v.nl v.cl):=cell_rowV D2.row rfl
 have HD2:=Lib.hid D2
 have HB2:=Lib.hid (hB1.out.trans (b12.mono D1.le))
 clear D1 D2 b12 hg1
 go_wp2_with fail
 rw [←hw2]
 clear hw2
 refine wp_region_quiet_tail 7 (by kernel_rfl) (by kernel_rfl) ?_
 simp only [List.take_succ_cons,List.take_zero,List.drop_succ_cons,List.drop_zero]
 repeat (go_big_quiet_step (fail))
 refine wpQuiet_nil ?_
 intro _ hw'
 obtain⟨nr,hw''⟩:=hw'
 subst hw''
 go_wp2_with fail
 refine (demand_ok x z 6 _).mono ?_
 rintro e w3 ⟨rfl,hb3⟩
 have b23:Below w2.heap.size w2 w3:=(bdrew (Below.refl _ _) nr).trans (hb3.mono (Nat.le_refl _))
 have D3:=HD2.out.below b23
 have r3:=r2.below b23 hl2
 obtain⟨e0,e1⟩:=two_cellsV r3
 have d6:w3.cell? ⟨g,6,none⟩=some (.slice v.Al v.nl v.cl):=cell_rowV D3.row rfl
 have f6:=frozen_rowV' D3.row 6
 have hB3:=Lib.hid (HB2.out.trans (b23.mono HD2.out.le))
 have hg3:g < w3.heap.size:=D3.row.lt
 have hw13:w1.heap.size < w3.heap.size:=r3.lt
 have b34:Below w3.heap.size w3 w3.drew:=(Drawn.drewN w3 1).below _
 have HD4:=Lib.hid (D3.toRC.below b34)
 have HB4:=Lib.hid (hB3.out.trans (b34.mono D3.le))
 clear D3 HD2 HB2 c6 a0 a1 hb3 b23 b34 hB3
 go_wp2_with fail
 go_region_law (first | (refine step_pushT (enc:=encSt) (w:=w3.drew) rfl (.tmp 17) (.tmp 20) rfl uSt infoSt encSt_one rfl (fun _=>rfl) (by decide) rfl HD4.out.ol HD4.out.le x _ rfl rfl hm.out.1 hm.out.2 ?_;intro A8 c8 w8 ho8 hb8 hg8 hf8;have rX:=HD4.out.row.grown hg8 (fun e=>(HD4.out.ol.ne_row HD4.out.row (by decide)) _ e.symm rfl);have e86:w8.cell? ⟨g,6,none⟩=some (.slice v.Al v.nl v.cl):=cell_rowV rX rfl;have e83:w8.cell? ⟨g,3,none⟩=some (.int .i64 (s.ln.length:Int)):=cell_rowV rX rfl;have f86:=frozen_rowV' rX 6;have f83:=frozen_rowV' rX 3))
 all_goals
  have HD8:=Lib.hid (HD4.out.push_ln ho8 hb8 hg8 hf8)
  have HB8:=Lib.hid (HB4.out.trans (hb8.trans (Below.setG (w:=w8) (j:=6) HD4.out.hB (.slice A8 (v.nl+1) c8))))
  clear rX ho8 hb8 hg8 hf8 d6 f6 e0 e1
  go_wp2_with fail
  have D9:=HD8.out.setL ((s.ln.length:Int)+1)
  refine⟨rfl,_,results_none rfl _ _ _,rfl,HB8.out.trans (Below.setG HD8.out.hB _),_,RC.toRD (s:={ s with ln:=s.ln++[x] }) (v:={ v.at_ A' k' c' with Al:=A8,nl:=v.nl+1,cl:=c8 }) ?_ ?_ ?_⟩
  ·have e:(((s.ln++[x]).length:Nat):Int)=(s.ln.length:Int)+1:=by simp
   show RC _ _ _ _ _ (((s.ln++[x]).length:Nat):Int) _ _ _ _ _ _ _
   rw [e]
   exact D9
  ·have:=hfew.out
   show s.cn.length+ws.tail.length≤9000
   rw [List.length_tail];omega
  ·refine⟨hfm.out.an,hfm.out.few,hfm.out.sizes,hfm.out.cells,by simp;omega,hfm.out.code,fun i hi=>(hfm.out.ins i hi).mono (Nat.le_refl _) (by simp),hfm.out.cn⟩
end Go.Proofs.YtepoclhdklgnhaaGreatDoor
namespace Go.Proofs.YtepoclhdklgnhaaGreatDoor
open Go.RowKit Go.Proofs
theorem local_badF(B g n:Nat)(v:RVs)(s:AS)(ws:List Wd)(w:World)(h:RD B g n w s ws v)(hF:freshE s (nextW n ws).1≠0) :
  Calls Tryz.prog 122 #[.pointer (some ⟨g,0,none⟩)] w fun e w'=>FailsB B w ((nextW n ws).2:Int) (freshE s (nextW n ws).1) e w':=by
 have H1:=Lib.hid (asmFresh_bad B g n v s ws w h hF)
 clear h hF
 go_enter Tryz.func122,Tryz.ntmps122
 go_wp2_with fail
 refine H1.out.mono ?_
 rintro e w1 ⟨rfl,hb1⟩
 go_wp2_with fail
 exact⟨rfl,rfl,hb1⟩
theorem constant_badF(B g n:Nat)(v:RVs)(s:AS)(ws:List Wd)(w:World)(h:RD B g n w s ws v)(hF:freshE s (nextW n ws).1≠0) :
  Calls Tryz.prog 123 #[.pointer (some ⟨g,0,none⟩)] w fun e w'=>FailsB B w ((nextW n ws).2:Int) (freshE s (nextW n ws).1) e w':=by
 have H1:=Lib.hid (asmFresh_bad B g n v s ws w h hF)
 clear h hF
 go_enter Tryz.func123,Tryz.ntmps123
 go_wp2_with fail
 refine H1.out.mono ?_
 rintro e w1 ⟨rfl,hb1⟩
 go_wp2_with fail
 exact⟨rfl,rfl,hb1⟩
theorem local_badM(B g n:Nat)(v:RVs)(s:AS)(ws:List Wd)(w:World)(h:RD B g n w s ws v)(hF:freshE s (nextW n ws).1=0)(hL:16≤s.ln.length) :
  Calls Tryz.prog 122 #[.pointer (some ⟨g,0,none⟩)] w fun e w'=>FailsB B w ((nextW n ws).2:Int) 6 e w':=by
 have H1:=asmFresh_ok B g n v s ws w h hF
 obtain⟨x,z,hx⟩:∃ x z,nextW n ws=(x,z):=⟨_,_,rfl⟩
 rw [hx] at H1 ⊢
 dsimp only at H1 ⊢
 have H1':=Lib.hid H1
 have hgl:=h.row.lt
 have hxl:x.length≤9000:=by have:=next_len h.wm (n:=n);rw [hx] at this;exact this
 have hnl:v.nl=s.ln.length:=(h.ol.length (fun _=>rfl) (by decide)).symm
 have d16:decide ((v.nl:Int) < 16)=false:=by simp;omega
 have d16':decide (v.nl < 16)=false:=by simp;omega
 clear H1 hnl hF hxl
 go_enter Tryz.func122,Tryz.ntmps122
 go_wp2_with fail
 refine H1'.out.mono ?_
 rintro e w1 ⟨rfl,hN⟩
 obtain⟨A',k',c',D1,hg1⟩:=h.next (ws':=ws.tail) (by rw [List.length_tail];omega) hN
 have hB1:=Lib.hid (h.toBelow hg1)
 clear H1' hN h
 have r2:=rowV.new w1 172 #[.string (strB x),.int .i64 (z:Int)]
 have hl2:=r2.lt
 have b12:Below w1.heap.size w1 (w1.alloc (.cells #[.string (strB x),.int .i64 (z:Int)] 172)):=balloc (Below.refl _ _) _
 obtain⟨w2,hw2⟩:∃ w2,w2=w1.alloc (.cells #[.string (strB x),.int .i64 (z:Int)] 172):=⟨_,rfl⟩
 rw [←hw2] at r2 hl2 b12
 obtain⟨a0,a1⟩:=two_cellsV r2
 have D2:=D1.below b12
 have HD2:=Lib.hid D2
 have HB2:=Lib.hid (hB1.out.trans (b12.mono D1.le))
 have c6:w2.cell? ⟨g,6,none⟩=some (.slice v.Al v.nl v.cl):=cell_rowV D2.row rfl
 clear D1 D2 b12 hg1
 go_wp2_with fail
 rw [←hw2]
 clear hw2
 refine wp_region_quiet_tail 7 (by kernel_rfl) (by kernel_rfl) ?_
 simp only [List.take_succ_cons,List.take_zero,List.drop_succ_cons,List.drop_zero]
 repeat (go_big_quiet_step (fail))
 refine wpQuiet_nil ?_
 intro _ hw'
 obtain⟨nr,hw''⟩:=hw'
 subst hw''
 go_wp2_with fail
 refine (demand_bad x z 6 _).mono ?_
 rintro e w3 ⟨rfl,hb3⟩
 have b23:Below w2.heap.size w2 w3:=(bdrew (Below.refl _ _) nr).trans (hb3.mono (Nat.le_refl _))
 have hE:=Lib.hid (HB2.out.trans (b23.mono HD2.out.le))
 go_wp2_with fail
 exact⟨rfl,rfl,hE.out⟩
theorem local_any(B g n:Nat)(v:RVs)(s:AS)(ws:List Wd)(w:World)(h:RD B g n w s ws v) :
  Calls Tryz.prog 122 #[.pointer (some ⟨g,0,none⟩)] w (DoesL B g n w (localL n s ws)):=by
 unfold localL
 dsimp only
 by_cases hF:freshE s (nextW n ws).1=0
 ·rw [if_neg (by simp [hF])]
  by_cases hL:16≤s.ln.length
  ·rw [if_pos hL];exact local_badM B g n v s ws w h hF hL
  ·rw [if_neg hL];exact local_ok B g n v s ws w h hF (by omega)
 ·rw [if_pos hF];exact local_badF B g n v s ws w h hF
theorem MapIs.run_set{P:Program}{k e:TypeId}{q:IntKind}{w:World}{b n:Nat}{f:List UInt8→Option Int}(h:MapIs P k e q w b n f)(t:TypeId)(hk:P.underlying k=some .string)(ht:P.underlying t=some (.map k e))(he:P.underlying e=some (.int q))(hn:n < maxLen)(s:List UInt8)(hs:s.length≤maxLen)(c:Int)(hc:(Lit.int q c).wf=true) :
  ∃ X,(Instr.mapUpdate t (.map (some b)) (.string (strB s)) (.int q c)).run P w=.ok () X∧MapIs P k e q X b (n+1) (fput f s c)∧w.grownBy X (some b):=by
 obtain⟨D,h1,h2⟩:=h
 obtain⟨X,hrun,r1,r2⟩:=h1.update (Maps.string_keyed hk) ht hn (strB_key hk s hs) (plainElem_int he hc)
 exact⟨X,hrun,⟨_,r1,MapIs.put (isMap_of h1) h2 s c⟩,r2⟩
theorem conF_put(s:AS)(x:List UInt8)(k:Nat)(hx:conOf s x=none):∀ y,conF { s with cn:=s.cn++[(x,k)] } y=fput (conF s) x (k:Int) y:=fun y=>by
 unfold conF fput conOf
 rw [List.find?_append]
 by_cases hy:y=x
 ·subst hy
  rw [if_pos rfl]
  unfold conOf at hx
  cases hf:s.cn.find? fun p=>decide (p.1=y) with
  | none=>simp
  | some p=>rw [hf] at hx;cases hx
 ·rw [if_neg hy]
  have h2:[(x,k)].find? (fun p=>decide (p.1=y))=none:=by simp [Ne.symm hy]
  rw [h2,Option.or_none]
theorem fresh_con{s:AS}{x:List UInt8}(h:freshE s x=0):conOf s x=none:=by
 unfold freshE at h
 split at h
 ·cases h
 split at h
 ·cases h
 ·rename_i h1
  simp only [Bool.or_eq_true,not_or,Bool.not_eq_true] at h1
  cases hc:conOf s x with
  | none=>rfl
  | some k=>rw [hc] at h1;simp at h1
theorem constant_ok(B g n:Nat)(v:RVs)(s:AS)(ws:List Wd)(w:World)(h:RD B g n w s ws v)(hF:freshE s (nextW n ws).1=0)(hV:(valueL s (nextW n ws.tail).1).2=0)(hws:2≤ws.length) :
  Calls Tryz.prog 123 #[.pointer (some ⟨g,0,none⟩)] w fun e w'=>e=.returned (.tuple #[])∧Below B w w'∧∃ v',RD B g n w' { s with cn:=s.cn++[((nextW n ws).1,(valueL s (nextW n ws.tail).1).1)] } ws.tail.tail v':=by
 have H1:=asmFresh_ok B g n v s ws w h hF
 obtain⟨x,z,hx⟩:∃ x z,nextW n ws=(x,z):=⟨_,_,rfl⟩
 rw [hx] at H1 ⊢
 dsimp only at H1 ⊢
 have H1':=Lib.hid H1
 have hgl:=h.row.lt
 have hxl:x.length≤9000:=by have:=next_len h.wm (n:=n);rw [hx] at this;exact this
 have hcon:conOf s x=none:=by rw [hx] at hF;exact fresh_con hF
 have hvl:=valueL_lt h.fm.cn (nextW n ws.tail).1
 have hfew:=h.few
 have HV:=Lib.hid hV
 have hfm:=Lib.hid h.fm
 obtain⟨nn,hnn⟩:∃ nn,nn=(valueL s (nextW n ws.tail).1).1:=⟨_,rfl⟩
 obtain⟨y,zy,hy⟩:∃ y zy,nextW n ws.tail=(y,zy):=⟨_,_,rfl⟩
 rw [←hnn] at hvl ⊢
 have HNN:=Lib.hid hnn
 have hwf:Hid ((Lit.int .i64 (nn:Int)).wf=true):=WalkArith.wf_i64 (by omega)
 have hms:Hid (x.length≤maxLen):=by show _≤_;simp [maxLen];omega
 have hmn:Hid (s.cn.length < maxLen):=by show _ < _;simp [maxLen];omega
 have HX:=Lib.hid (And.intro hcon (And.intro hxl (And.intro hvl (And.intro hfew hws))))
 clear H1 hF hV hcon hxl hvl hfew hws hnn
 go_enter Tryz.func123,Tryz.ntmps123
 go_wp2_with fail
 refine H1'.out.mono ?_
 rintro e w1 ⟨rfl,hN⟩
 obtain⟨A',k',c',D1,hg1⟩:=h.next (ws':=ws.tail) (by rw [List.length_tail];omega) hN
 have hB1:=Lib.hid (h.toBelow hg1)
 clear H1' hN h
 have r2:=rowV.new w1 172 #[.string (strB x),.int .i64 (z:Int)]
 have hl2:=r2.lt
 have b12:Below w1.heap.size w1 (w1.alloc (.cells #[.string (strB x),.int .i64 (z:Int)] 172)):=balloc (Below.refl _ _) _
 obtain⟨w2,hw2⟩:∃ w2,w2=w1.alloc (.cells #[.string (strB x),.int .i64 (z:Int)] 172):=⟨_,rfl⟩
 rw [←hw2] at r2 hl2 b12
 obtain⟨a0,a1⟩:=two_cellsV r2
 have D2:=D1.below b12
 have HD2:=Lib.hid D2
 have HB2:=Lib.hid (hB1.out.trans (b12.mono D1.le))
 have c7:w2.cell? ⟨g,7,none⟩=some (.map (some v.m)):=cell_rowV D2.row rfl
 have HV2:Hid (Calls Tryz.prog 126 #[.pointer (some ⟨g,0,none⟩)] w2.drew fun e w'=>∃ A4 k4 c4,e=.returned (.tuple #[.int .i64 (nn:Int),.agg #[.string (strB y),.int .i64 (zy:Int)]])∧RD B g n w' s ws.tail.tail ((v.at_ A' k' c').at_ A4 k4 c4)∧w2.grownBy w' (some g)):=by
  show Calls _ _ _ _ _
  have D2d:=D2.below (w':=w2.drew) ((Drawn.drewN w2 1).below _)
  have:=asmValue_ok B g n _ s ws.tail w2.drew D2d HV.out
  rw [←HNN.out,hy] at this
  refine this.mono ?_
  rintro e w' ⟨rfl,hN⟩
  obtain⟨A4,k4,c4,D4,hg4⟩:=D2d.next (ws':=ws.tail.tail) (by rw [List.length_tail];omega) hN
  exact⟨A4,k4,c4,rfl,D4,grownBy.trans' (grownBy.below' (World.grownBy.refl w2 (some g)) ((Drawn.drewN w2 1).below _)) hg4⟩
 have hg2:g < w2.heap.size:=D2.row.lt
 have hzg:w1.heap.size≠g:=by have:=D1.row.lt;omega
 clear D1 D2 b12 hg1
 go_wp2_with fail
 rw [←hw2]
 clear hw2
 go_region_held3 (fun W=>W.cell? ⟨g,7,none⟩=some (.map (some v.m))∧W.cell? ⟨w1.heap.size,0,none⟩=some (.string (strB x)))
  (first | go_keep | exact⟨c74,a04⟩ | exact⟨c7X,a0X⟩)
  (first | (go_at_call 126;refine HV2.out.mono ?_;rintro e w4 ⟨A4,k4,c4,rfl,D4,hg4⟩;have c74:w4.cell? ⟨g,7,none⟩=some (.map (some v.m)):=cell_rowV D4.row rfl;have r4:=r2.grown hg4 (fun e=>hzg (by injection e));have a04:=(two_cellsV r4).1;obtain⟨X,hrun,hmX,hgX⟩:=D4.mp.run_set 111 uS uMc uInt hmn.out x hms.out (nn:Int) hwf.out;have hrun':(Instr.mapUpdate 111 (.map (some v.m)) (.string (strB x)) (.int .i64 (nn:Int))).run Tryz.prog w4=.ok () X:=hrun;have DX:=D4.toRC.setM hmX hgX;have c7X:X.cell? ⟨g,7,none⟩=some (.map (some v.m)):=cell_rowV DX.row rfl;have rX:=r4.grown hgX (fun e=>by have h1:=D4.mp.isMap;obtain⟨om,ho,hc⟩:=h1;injection e with e;rw [←e] at ho;rw [r4] at ho;injection ho with ho;rw [←ho] at hc;cases hc);have a0X:=(two_cellsV rX).1))
 have HDX:=Lib.hid DX
 have HB4:=Lib.hid (HB2.out.trans (HD2.out.toBelow hg4))
 have HBX:=Lib.hid (HB4.out.trans (⟨hgX.os,hgX.tape,hgX.output,hgX.size,fun k hk=>hgX.block k (Nat.lt_of_lt_of_le hk D4.le) (fun e=>by injection e with e;have h1:=D4.hm;have h2:k=((v.at_ A' k' c').at_ A4 k4 c4).m:=e;omega)⟩:Below B w4 X))
 clear DX hgX hmX hg4 D4 rX r4 hrun' hrun c74 c7X a0X a04
 go_wp2_with fail
 obtain⟨hcon,hxl,hvl,hfew,hws⟩:=HX.out
 refine⟨rfl,_,results_none rfl _ _ _,rfl,HBX.out,_,RC.toRD (s:={ s with cn:=s.cn++[(x,nn)] }) (v:=(v.at_ A' k' c').at_ A4 k4 c4) ?_ ?_ ?_⟩
 ·have:=HDX.out
  have e:(conF { s with cn:=s.cn++[(x,nn)] })=fput (conF s) x (nn:Int):=funext (conF_put s x nn hcon)
  rw [e]
  show RC _ _ _ _ _ _ _ _ _ _ ((s.cn++[(x,nn)]).length) _ _
  rw [List.length_append]
  exact this
 ·show (s.cn++[(x,nn)]).length+ws.tail.tail.length≤9000
  simp only [List.length_append,List.length_cons,List.length_nil,List.length_tail]
  omega
 ·refine⟨hfm.out.an,hfm.out.few,hfm.out.sizes,hfm.out.cells,hfm.out.locs,hfm.out.code,hfm.out.ins,fun p hp=>?_⟩
  rcases List.mem_append.1 hp with hp | hp
  ·exact hfm.out.cn p hp
  ·rw [List.mem_singleton.1 hp];exact hvl
section
theorem constant_badV(B g n:Nat)(v:RVs)(s:AS)(ws:List Wd)(w:World)(h:RD B g n w s ws v)(hF:freshE s (nextW n ws).1=0)(hV:(valueL s (nextW n ws.tail).1).2≠0) :
  Calls Tryz.prog 123 #[.pointer (some ⟨g,0,none⟩)] w fun e w'=>FailsB B w ((nextW n ws.tail).2:Int) (valueL s (nextW n ws.tail).1).2 e w':=by
 have H1:=asmFresh_ok B g n v s ws w h hF
 obtain⟨x,z,hx⟩:∃ x z,nextW n ws=(x,z):=⟨_,_,rfl⟩
 rw [hx] at H1
 dsimp only at H1
 have H1':=Lib.hid H1
 have hgl:=h.row.lt
 have hxl:x.length≤9000:=by have:=next_len h.wm (n:=n);rw [hx] at this;exact this
 have HV:=Lib.hid hV
 obtain⟨y,zy,hy⟩:∃ y zy,nextW n ws.tail=(y,zy):=⟨_,_,rfl⟩
 obtain⟨er,her⟩:∃ er,er=(valueL s (nextW n ws.tail).1).2:=⟨_,rfl⟩
 have HER:Hid (er=(valueL s (nextW n ws.tail).1).2∧nextW n ws.tail=(y,zy)):=⟨her,hy⟩
 rw [←her,hy]
 clear H1 hF hV hxl her hy
 go_enter Tryz.func123,Tryz.ntmps123
 go_wp2_with fail
 refine H1'.out.mono ?_
 rintro e w1 ⟨rfl,hN⟩
 obtain⟨A',k',c',D1,hg1⟩:=h.next (ws':=ws.tail) (by rw [List.length_tail];omega) hN
 have hB1:=Lib.hid (h.toBelow hg1)
 clear H1' hN h
 have r2:=rowV.new w1 172 #[.string (strB x),.int .i64 (z:Int)]
 have hl2:=r2.lt
 have b12:Below w1.heap.size w1 (w1.alloc (.cells #[.string (strB x),.int .i64 (z:Int)] 172)):=balloc (Below.refl _ _) _
 obtain⟨w2,hw2⟩:∃ w2,w2=w1.alloc (.cells #[.string (strB x),.int .i64 (z:Int)] 172):=⟨_,rfl⟩
 rw [←hw2] at r2 hl2 b12
 obtain⟨a0,a1⟩:=two_cellsV r2
 have D2:=D1.below b12
 have HD2:=Lib.hid D2
 have HB2:=Lib.hid (hB1.out.trans (b12.mono D1.le))
 have c7:w2.cell? ⟨g,7,none⟩=some (.map (some v.m)):=cell_rowV D2.row rfl
 have HV2:Hid (Calls Tryz.prog 126 #[.pointer (some ⟨g,0,none⟩)] w2.drew fun e w'=>e=.panicked [{ v:=failV zy er,recovered:=false }]∧Below B w w'):=by
  show Calls _ _ _ _ _
  have D2d:=D2.below (w':=w2.drew) ((Drawn.drewN w2 1).below _)
  have:=asmValue_bad B g n _ s ws.tail w2.drew D2d HV.out
  rw [←HER.out.1,HER.out.2] at this
  refine this.mono ?_
  rintro e w' ⟨rfl,hb⟩
  exact⟨rfl,HB2.out.trans ((((Drawn.drewN w2 1).below _).mono (HD2.out.le)).trans hb)⟩
 have hg2:g < w2.heap.size:=D2.row.lt
 have hzg:w1.heap.size≠g:=by have:=D1.row.lt;omega
 clear D1 D2 b12 hg1
 go_wp2_with fail
 rw [←hw2]
 clear hw2
 go_region_law (first | (go_simp;go_at_call 126;refine HV2.out.mono ?_;rintro e w4 ⟨rfl,hb4⟩;show bodyPost _ _ _ (Exit.panic [{ v:=failV zy er,recovered:=false }]) _ _;refine (fun (_:wpAny Tryz.prog .any #[] (fun _ _ _=>True) 0 #[] { tmps:=#[],defers:=[] } w4)=>⟨rfl,rfl,hb4⟩) ?_))
 all_goals trivial
end
theorem constant_any(B g n:Nat)(v:RVs)(s:AS)(ws:List Wd)(w:World)(h:RD B g n w s ws v) :
  Calls Tryz.prog 123 #[.pointer (some ⟨g,0,none⟩)] w (DoesL B g n w (constL n s ws)):=by
 unfold constL
 dsimp only
 by_cases hF:freshE s (nextW n ws).1=0
 ·rw [if_neg (by simp [hF])]
  by_cases hV:(valueL s (nextW n ws.tail).1).2=0
  ·rw [if_neg (by simp [hV])]
   refine constant_ok B g n v s ws w h hF hV ?_
   rcases ws with _ | ⟨a,_ | ⟨b,t⟩⟩
   ·exact absurd hF (fresh_end s n)
   ·exact absurd hV (by show ¬ (4:Int)=0;decide)
   ·simp
  ·rw [if_pos hV];exact constant_badV B g n v s ws w h hF hV
 ·rw [if_pos hF];exact constant_badF B g n v s ws w h hF
theorem array_badF(B g n:Nat)(v:RVs)(s:AS)(ws:List Wd)(w:World)(wide:Bool)(h:RD B g n w s ws v)(hF:freshE s (nextW n ws).1≠0) :
  Calls Tryz.prog 120 #[.pointer (some ⟨g,0,none⟩),.bool wide] w fun e w'=>FailsB B w ((nextW n ws).2:Int) (freshE s (nextW n ws).1) e w':=by
 have H1:=Lib.hid (asmFresh_bad B g n v s ws w h hF)
 clear h hF
 go_enter Tryz.func120,Tryz.ntmps120
 go_wp2_with fail
 refine H1.out.mono ?_
 rintro e w1 ⟨rfl,hb1⟩
 go_wp2_with fail
 exact⟨rfl,rfl,hb1⟩
theorem array_badM(B g n:Nat)(v:RVs)(s:AS)(ws:List Wd)(w:World)(wide:Bool)(h:RD B g n w s ws v)(hF:freshE s (nextW n ws).1=0)(hL:8≤s.an.length) :
  Calls Tryz.prog 120 #[.pointer (some ⟨g,0,none⟩),.bool wide] w fun e w'=>FailsB B w ((nextW n ws).2:Int) 6 e w':=by
 have H1:=asmFresh_ok B g n v s ws w h hF
 obtain⟨x,z,hx⟩:∃ x z,nextW n ws=(x,z):=⟨_,_,rfl⟩
 rw [hx] at H1 ⊢
 dsimp only at H1 ⊢
 have H1':=Lib.hid H1
 have hgl:=h.row.lt
 have hxl:x.length≤9000:=by have:=next_len h.wm (n:=n);rw [hx] at this;exact this
 have hnl:v.nn=s.an.length:=(h.on.length (fun _=>rfl) (by decide)).symm
 have d16:decide ((v.nn:Int) < 8)=false:=by simp;omega
 have d16':decide (v.nn < 8)=false:=by simp;omega
 clear H1 hnl hF hxl
 go_enter Tryz.func120,Tryz.ntmps120
 go_wp2_with fail
 refine H1'.out.mono ?_
 rintro e w1 ⟨rfl,hN⟩
 obtain⟨A',k',c',D1,hg1⟩:=h.next (ws':=ws.tail) (by rw [List.length_tail];omega) hN
 have hB1:=Lib.hid (h.toBelow hg1)
 clear H1' hN h
 have r2:=rowV.new w1 172 #[.string (strB x),.int .i64 (z:Int)]
 have hl2:=r2.lt
 have b12:Below w1.heap.size w1 (w1.alloc (.cells #[.string (strB x),.int .i64 (z:Int)] 172)):=balloc (Below.refl _ _) _
 obtain⟨w2,hw2⟩:∃ w2,w2=w1.alloc (.cells #[.string (strB x),.int .i64 (z:Int)] 172):=⟨_,rfl⟩
 rw [←hw2] at r2 hl2 b12
 obtain⟨a0,a1⟩:=two_cellsV r2
 have D2:=D1.below b12
 have HD2:=Lib.hid D2
 have HB2:=Lib.hid (hB1.out.trans (b12.mono D1.le))
 have c6:w2.cell? ⟨g,5,none⟩=some (.slice v.An v.nn v.cn):=cell_rowV D2.row rfl
 clear D1 D2 b12 hg1
 go_wp2_with fail
 rw [←hw2]
 clear hw2
 refine wp_region_quiet_tail 7 (by kernel_rfl) (by kernel_rfl) ?_
 simp only [List.take_succ_cons,List.take_zero,List.drop_succ_cons,List.drop_zero]
 repeat (go_big_quiet_step (fail))
 refine wpQuiet_nil ?_
 intro _ hw'
 obtain⟨nr,hw''⟩:=hw'
 subst hw''
 go_wp2_with fail
 refine (demand_bad x z 6 _).mono ?_
 rintro e w3 ⟨rfl,hb3⟩
 have b23:Below w2.heap.size w2 w3:=(bdrew (Below.refl _ _) nr).trans (hb3.mono (Nat.le_refl _))
 have hE:=Lib.hid (HB2.out.trans (b23.mono HD2.out.le))
 go_wp2_with fail
 exact⟨rfl,rfl,hE.out⟩
theorem array_badV(B g n:Nat)(v:RVs)(s:AS)(ws:List Wd)(w:World)(wide:Bool)(h:RD B g n w s ws v)(hF:freshE s (nextW n ws).1=0)(hL:s.an.length < 8)(hV:(valueL s (nextW n ws.tail).1).2≠0) :
  Calls Tryz.prog 120 #[.pointer (some ⟨g,0,none⟩),.bool wide] w fun e w'=>FailsB B w ((nextW n ws.tail).2:Int) (valueL s (nextW n ws.tail).1).2 e w':=by
 have H1:=asmFresh_ok B g n v s ws w h hF
 obtain⟨x,z,hx⟩:∃ x z,nextW n ws=(x,z):=⟨_,_,rfl⟩
 rw [hx] at H1
 dsimp only at H1
 have H1':=Lib.hid H1
 have hgl:=h.row.lt
 have hxl:x.length≤9000:=by have:=next_len h.wm (n:=n);rw [hx] at this;exact this
 have hnl:v.nn=s.an.length:=(h.on.length (fun _=>rfl) (by decide)).symm
 have d16:decide ((v.nn:Int) < 8)=true:=by simp;omega
 have d16':decide (v.nn < 8)=true:=by simp;omega
 have hm:Hid (v.nn+1≤maxLen∧(v.nn+1) * 16≤140737488355328):=⟨by simp [maxLen];omega,by omega⟩
 have hfew:=Lib.hid h.few
 have hfm:=Lib.hid h.fm
 have HV:=Lib.hid hV
 obtain⟨y,zy,hy⟩:∃ y zy,nextW n ws.tail=(y,zy):=⟨_,_,rfl⟩
 obtain⟨er,her⟩:∃ er,er=(valueL s (nextW n ws.tail).1).2:=⟨_,rfl⟩
 have HER:Hid (er=(valueL s (nextW n ws.tail).1).2∧nextW n ws.tail=(y,zy)):=⟨her,hy⟩
 rw [←her,hy]
 clear H1 hF hV hxl her hy hnl
 go_enter Tryz.func120,Tryz.ntmps120
 go_wp2_with fail
 refine H1'.out.mono ?_
 rintro e w1 ⟨rfl,hN⟩
 obtain⟨A',k',c',D1,hg1⟩:=h.next (ws':=ws.tail) (by rw [List.length_tail];omega) hN
 have hB1:=Lib.hid (h.toBelow hg1)
 clear H1' hN h
 have r2:=rowV.new w1 172 #[.string (strB x),.int .i64 (z:Int)]
 have hl2:=r2.lt
 have b12:Below w1.heap.size w1 (w1.alloc (.cells #[.string (strB x),.int .i64 (z:Int)] 172)):=balloc (Below.refl _ _) _
 obtain⟨w2,hw2⟩:∃ w2,w2=w1.alloc (.cells #[.string (strB x),.int .i64 (z:Int)] 172):=⟨_,rfl⟩
 rw [←hw2] at r2 hl2 b12
 obtain⟨a0,a1⟩:=two_cellsV r2
 have D2:=D1.below b12
 have HD2:=Lib.hid D2
 have HB2:=Lib.hid (hB1.out.trans (b12.mono D1.le))
 have c6:w2.cell? ⟨g,5,none⟩=some (.slice v.An v.nn v.cn):=cell_rowV D2.row rfl
 clear D1 D2 b12 hg1
 go_wp2_with fail
 rw [←hw2]
 clear hw2
 refine wp_region_quiet_tail 7 (by kernel_rfl) (by kernel_rfl) ?_
 simp only [List.take_succ_cons,List.take_zero,List.drop_succ_cons,List.drop_zero]
 repeat (go_big_quiet_step (fail))
 refine wpQuiet_nil ?_
 intro _ hw'
 obtain⟨nr,hw''⟩:=hw'
 subst hw''
 go_wp2_with fail
 refine (demand_ok x z 6 _).mono ?_
 rintro e w3 ⟨rfl,hb3⟩
 have b23:Below w2.heap.size w2 w3:=(bdrew (Below.refl _ _) nr).trans (hb3.mono (Nat.le_refl _))
 have D3:=HD2.out.below b23
 have r3:=r2.below b23 hl2
 have HB3:=Lib.hid (HB2.out.trans (b23.mono HD2.out.le))
 have hzg:w1.heap.size≠g:=by have h1:=D3.row.lt;have h2:=r3.lt;intro e;rw [e] at r3;have:=D3.row;unfold rowV at this r3;rw [this] at r3;injection r3 with r3;injection r3 with _ r3;exact absurd r3 (by decide)
 have HV2:Hid (Calls Tryz.prog 126 #[.pointer (some ⟨g,0,none⟩)] w3 fun e w'=>e=.panicked [{ v:=failV zy er,recovered:=false }]∧Below B w w'):=by
  show Calls _ _ _ _ _
  have:=asmValue_bad B g n _ s ws.tail w3 D3 HV.out
  rw [←HER.out.1,HER.out.2] at this
  refine this.mono ?_
  rintro e w' ⟨rfl,hb⟩
  exact⟨rfl,HB3.out.trans hb⟩
 clear D3 r3 b23 hb3
 go_wp2_with fail
 refine HV2.out.mono ?_
 rintro e w4 ⟨rfl,hb4⟩
 go_wp2_with fail
 exact⟨rfl,rfl,hb4⟩
theorem setCell_size(w:World)(p:Addr)(u:Value):(w.setCell p u).heap.size=w.heap.size:=by simp [World.setCell]
theorem OwnS.toArrs{w:World}{B:Nat}{A:Option Addr}{n c:Nat}{l:List Arr}(h:OwnS encAr 2 w B 68 A n c l)(hwf:∀ x∈l,(Lit.int .i64 x.size).wf=true):Arrs w A n c l:=by
 refine⟨h.length (fun _=>rfl) (by decide),h.cap,hwf,fun hn=>?_⟩
 obtain⟨b,hA,_,hlt,hc⟩:=h.get (fun _=>rfl) (by decide) (⟨false,0⟩:Arr) hn
 refine⟨b,0,hA,hlt,fun i hi=>⟨?_,?_⟩⟩
 ·have:=hc i 0 (.bool (gA l i).word) hi rfl
  simpa using this
 ·have:=hc i 1 (.int .i64 (gA l i).size) hi rfl
  simpa using this
theorem sum_take_le:∀ {l:List Arr},(∀ x∈l,1≤x.size∧x.size≤65536)→∀ k,0≤sumA (l.take k)∧sumA (l.take k)≤sumA l
 | [],_,k=>by simp [sumA]
 | x :: l,h,0=>by
  have h1:=(sum_take_le (l:=l) (fun y hy=>h y (List.mem_cons_of_mem _ hy)) l.length)
  rw [List.take_length] at h1
  have:=h x (by simp)
  simp only [List.take_zero,sumA]
  omega
 | x :: l,h,k+1=>by
  have h1:=(sum_take_le (l:=l) (fun y hy=>h y (List.mem_cons_of_mem _ hy)) k)
  have:=h x (by simp)
  rw [List.take_succ_cons,sumA,sumA]
  omega
theorem array_ok(B g n:Nat)(v:RVs)(s:AS)(ws:List Wd)(w:World)(wide:Bool)(h:RD B g n w s ws v)(hF:freshE s (nextW n ws).1=0)(hL:s.an.length < 8)(hV:(valueL s (nextW n ws.tail).1).2=0)(hR:1≤(valueL s (nextW n ws.tail).1).1∧((valueL s (nextW n ws.tail).1).1:Int)+s.cells≤65536) :
  Calls Tryz.prog 120 #[.pointer (some ⟨g,0,none⟩),.bool wide] w fun e w'=>e=.returned (.tuple #[])∧Below B w w'∧∃ v',RD B g n w' { s with arrs:=s.arrs++[⟨wide,(valueL s (nextW n ws.tail).1).1⟩],an:=s.an++[(nextW n ws).1] } ws.tail.tail v':=by
 have H1:=asmFresh_ok B g n v s ws w h hF
 obtain⟨x,z,hx⟩:∃ x z,nextW n ws=(x,z):=⟨_,_,rfl⟩
 rw [hx] at H1
 dsimp only at H1
 have H1':=Lib.hid H1
 have hgl:=h.row.lt
 have hxl:x.length≤9000:=by have:=next_len h.wm (n:=n);rw [hx] at this;exact this
 have hnl:v.nn=s.an.length:=(h.on.length (fun _=>rfl) (by decide)).symm
 have d16:decide ((v.nn:Int) < 8)=true:=by simp;omega
 have d16':decide (v.nn < 8)=true:=by simp;omega
 have hm:Hid (v.nn+1≤maxLen∧(v.nn+1) * 16≤140737488355328):=⟨by simp [maxLen];omega,by omega⟩
 have hfew:=Lib.hid h.few
 have hfm:=Lib.hid h.fm
 have HV:=Lib.hid hV
 have hvl:=valueL_lt h.fm.cn (nextW n ws.tail).1
 obtain⟨y,zy,hy⟩:∃ y zy,nextW n ws.tail=(y,zy):=⟨_,_,rfl⟩
 obtain⟨nn,hnn⟩:∃ nn,nn=(valueL s (nextW n ws.tail).1).1:=⟨_,rfl⟩
 have HER:Hid (nn=(valueL s (nextW n ws.tail).1).1∧nextW n ws.tail=(y,zy)):=⟨hnn,hy⟩
 rw [←hnn] at hR hvl ⊢
 rw [hx]
 dsimp only
 have hna:v.na=s.arrs.length:=(h.oa.length (fun _=>rfl) (by decide)).symm
 have hsl:=sum_take_le h.fm.sizes
 have hcl:sumA s.arrs≤65536:=by rw [sumA_cells];exact h.fm.cells
 have hsA:s.cells=sumA s.arrs:=(sumA_cells _).symm
 have han:=h.fm.an
 have hma:Hid (v.na+1≤maxLen∧(v.na+1) * 16≤140737488355328):=⟨by simp [maxLen];omega,by omega⟩
 have HNA:=Lib.hid hna
 have hna8:v.na≤8:=by have:=h.fm.few;omega
 have HSL:=Lib.hid hsl
 have HSZ:=Lib.hid h.fm.sizes
 clear H1 hF hV hxl hnn hy hnl hsl hna
 rw [hsA] at hR
 go_enter Tryz.func120,Tryz.ntmps120
 go_wp2_with fail
 refine H1'.out.mono ?_
 rintro e w1 ⟨rfl,hN⟩
 have HR:=Lib.hid hR
 have HCL:=Lib.hid hcl
 have HVL:=Lib.hid hvl
 clear hR hcl hvl hsA han
 obtain⟨A',k',c',D1,hg1⟩:=h.next (ws':=ws.tail) (by rw [List.length_tail];omega) hN
 have hB1:=Lib.hid (h.toBelow hg1)
 clear H1' hN h
 have r2:=rowV.new w1 172 #[.string (strB x),.int .i64 (z:Int)]
 have hl2:=r2.lt
 have b12:Below w1.heap.size w1 (w1.alloc (.cells #[.string (strB x),.int .i64 (z:Int)] 172)):=balloc (Below.refl _ _) _
 obtain⟨w2,hw2⟩:∃ w2,w2=w1.alloc (.cells #[.string (strB x),.int .i64 (z:Int)] 172):=⟨_,rfl⟩
 rw [←hw2] at r2 hl2 b12
 obtain⟨a0,a1⟩:=two_cellsV r2
 have D2:=D1.below b12
 have HD2:=Lib.hid D2
 have HB2:=Lib.hid (hB1.out.trans (b12.mono D1.le))
 have c6:w2.cell? ⟨g,5,none⟩=some (.slice v.An v.nn v.cn):=cell_rowV D2.row rfl
 clear D1 D2 b12 hg1
 go_wp2_with fail
 rw [←hw2]
 clear hw2
 refine wp_region_quiet_tail 7 (by kernel_rfl) (by kernel_rfl) ?_
 simp only [List.take_succ_cons,List.take_zero,List.drop_succ_cons,List.drop_zero]
 repeat (go_big_quiet_step (fail))
 refine wpQuiet_nil ?_
 intro _ hw'
 obtain⟨nr,hw''⟩:=hw'
 subst hw''
 go_wp2_with fail
 refine (demand_ok x z 6 _).mono ?_
 rintro e w3 ⟨rfl,hb3⟩
 have b23:Below w2.heap.size w2 w3:=(bdrew (Below.refl _ _) nr).trans (hb3.mono (Nat.le_refl _))
 have D3:=HD2.out.below b23
 have r3:=r2.below b23 hl2
 have HB3:=Lib.hid (HB2.out.trans (b23.mono HD2.out.le))
 have hzg:w1.heap.size≠g:=by have h1:=D3.row.lt;have h2:=r3.lt;intro e;rw [e] at r3;have:=D3.row;unfold rowV at this r3;rw [this] at r3;injection r3 with r3;injection r3 with _ r3;exact absurd r3 (by decide)
 have HV2:Hid (Calls Tryz.prog 126 #[.pointer (some ⟨g,0,none⟩)] w3 fun e w'=>∃ A4 k4 c4,e=.returned (.tuple #[.int .i64 (nn:Int),.agg #[.string (strB y),.int .i64 (zy:Int)]])∧RD B g n w' s ws.tail.tail ((v.at_ A' k' c').at_ A4 k4 c4)∧w3.grownBy w' (some g)):=by
  show Calls _ _ _ _ _
  have:=asmValue_ok B g n _ s ws.tail w3 D3 HV.out
  rw [←HER.out.1,HER.out.2] at this
  refine this.mono ?_
  rintro e w' ⟨rfl,hN⟩
  obtain⟨A4,k4,c4,D4,hg4⟩:=D3.next (ws':=ws.tail.tail) (by rw [List.length_tail];omega) hN
  exact⟨A4,k4,c4,rfl,D4,hg4⟩
 have HD3:=Lib.hid D3
 clear D3 b23 hb3 HD2 HB2 a0 a1 c6
 go_wp2_with fail
 refine HV2.out.mono ?_
 rintro e w4 ⟨A4,k4,c4,rfl,D4,hg4⟩
 have r4:=r3.grown hg4 (fun e=>hzg (by injection e))
 have HB4:=Lib.hid (HB3.out.trans (HD3.out.toBelow hg4))
 have s5:=rowV.new w4 172 #[.string (strB y),.int .i64 (zy:Int)]
 have hl5:=s5.lt
 have b45:Below w4.heap.size w4 (w4.alloc (.cells #[.string (strB y),.int .i64 (zy:Int)] 172)):=balloc (Below.refl _ _) _
 obtain⟨w5,hw5⟩:∃ w5,w5=w4.alloc (.cells #[.string (strB y),.int .i64 (zy:Int)] 172):=⟨_,rfl⟩
 rw [←hw5] at s5 hl5 b45
 have D5:=D4.below b45
 have hg4s:g < w4.heap.size:=D4.row.lt
 have c2:w4.cell? ⟨g,2,none⟩=some (.slice v.Aa v.na v.ca):=cell_rowV D4.row rfl
 have HA5:Hid (Arrs w5 v.Aa v.na v.ca s.arrs):=D5.oa.toArrs (fun x hx=>WalkArith.wf_i64 (by have:=hfm.out.sizes x hx;omega))
 have HD5:=Lib.hid D5
 have HB5:=Lib.hid (HB4.out.trans (b45.mono D4.le))
 clear D4 D5 hg4 HD3 HB4 HB3 HV2 r3
 go_wp2_with fail
 rw [←hw5]
 go_loopw [7,9,32] (fun s7 _ s32 wr=>∃ k:Nat,k≤v.na∧s32=.int .i64 (k:Int)∧s7=.int .i64 ((nn:Int)+sumA (s.arrs.take k))∧Below w5.heap.size w5 wr) (fun _ _ s32 _=>v.na-(intOf s32).toNat)
 case atStart=>exact⟨0,Nat.zero_le _,rfl,by simp [sumA],Below.refl _ _⟩
 case round=>
  obtain⟨k,hk,rfl,rfl,hb⟩:=hrel
  have hS:=HSL.out k
  obtain⟨sk,hsk⟩:∃ sk,sk=sumA (s.arrs.take k):=⟨_,rfl⟩
  have hcl:=HCL.out
  have hvl:=HVL.out
  by_cases hlt:k < v.na
  ·have e1:decide ((k:Int) < (v.na:Int))=true:=by simp;omega
   have e1':decide (k < v.na)=true:=by simp;omega
   obtain⟨b,off,hAb,hbl,hcell⟩:=(HA5.out.below hb).get hlt
   obtain⟨q1,q2⟩:=hcell k hlt
   have hnx:=sumA_take (l:=s.arrs) (k:=k) (by rw [←HNA.out];exact hlt)
   have hsz:=HSZ.out (gA s.arrs k) (gA_mem (by rw [←HNA.out];exact hlt))
   have HN:=Lib.hid hnx
   have HT:=Lib.hid hsk
   obtain⟨y2,hy2⟩:∃ y2,y2=gA s.arrs k:=⟨_,rfl⟩
   rw [←hy2] at q1 q2 hsz hnx
   have HY:=Lib.hid hy2
   rw [←hsk] at hS hnx ⊢
   clear hcell hy2 hnx hsk
   obtain⟨wd,sz⟩:=y2
   dsimp only at q1 q2 hsz
   rw [hAb]
   have hb':=balloc hb (.cells #[.bool wd,.int .i64 sz] 68)
   have hbw:b < wr.heap.size:=World.block_lt_of_cell? wr _ q1
   go_wp2_with fail
   go_roundw
   case rel=>exact⟨k+1,by omega,by go_num,by rw [HN.out,←HT.out,←HY.out];go_num,hb'⟩
   case measure=>simp [intOf];omega
  ·have e1:decide ((k:Int) < (v.na:Int))=false:=by simp;omega
   have e1':decide (k < v.na)=false:=by simp;omega
   obtain rfl:k=v.na:=by omega
   have hfull:sumA (s.arrs.take v.na)=sumA s.arrs:=by rw [HNA.out,List.take_length]
   have hsa:=hsk.trans hfull
   have hR:=HR.out
   rw [←hfull,←hsk] at hR
   have r5:=r4.below b45 r4.lt
   have r6:=r5.below hb r5.lt
   have s6:=s5.below hb hl5
   have D6:=HD5.out.below hb
   obtain⟨e0,e10⟩:=two_cellsV s6
   have HB6:=Lib.hid (HB5.out.trans (hb.mono HD5.out.le))
   have HD6:=Lib.hid D6
   have HT:=Lib.hid hsk
   rw [←hsk]
   clear hS HSL HSZ HA5 HD5 HB5 hw5 s5 hb r5 r4 hl5 hsk hfull hsa D6 c2 b45
   have dn:decide ((0:Int) < (nn:Int))=true:=by simp;omega
   have dn':decide (0 < nn)=true:=by simp;omega
   have dc:decide ((nn:Int)+sk≤65536)=true:=by simp;omega
   go_wp2_with fail
   refine (demand_ok y zy 2 _).mono ?_
   rintro e w7 ⟨rfl,hb7⟩
   have D7:=HD6.out.below hb7
   have r7:=r6.below hb7 r6.lt
   obtain⟨j0,j1⟩:=two_cellsV r7
   have d5:w7.cell? ⟨g,5,none⟩=some (.slice v.An v.nn v.cn):=cell_rowV D7.row rfl
   have f5:=frozen_rowV' D7.row 5
   have hg7:g < w7.heap.size:=D7.row.lt
   have hw17:w1.heap.size < w7.heap.size:=r7.lt
   have b78:Below w7.heap.size w7 w7.drew:=(Drawn.drewN w7 1).below _
   have HD8:=Lib.hid (D7.toRC.below b78)
   have HB8:=Lib.hid (HB6.out.trans ((hb7.mono HD6.out.le).trans (b78.mono D7.le)))
   clear D7 HD6 HB6 r6 r7 s6 hb7 b78 e0 e10 dn dn' dc
   go_wp2_with fail
   go_region_law (first | (refine step_pushT (enc:=encSt) (w:=w7.drew) rfl (.tmp 53) (.tmp 56) rfl uSt infoSt encSt_one rfl (fun _=>rfl) (by decide) rfl HD8.out.on HD8.out.le x _ rfl rfl hm.out.1 hm.out.2 ?_;intro A8 c8 w8 ho8 hb8 hg8 hf8;have rX:=HD8.out.row.grown hg8 (fun e=>(HD8.out.on.ne_row HD8.out.row (by decide)) _ e.symm rfl);have e85:w8.cell? ⟨g,5,none⟩=some (.slice v.An v.nn v.cn):=cell_rowV rX rfl;have e82:w8.cell? ⟨g,2,none⟩=some (.slice v.Aa v.na v.ca):=cell_rowV rX rfl;have f85:=frozen_rowV' rX 5;have f82:=frozen_rowV' rX 2))
   all_goals
    have HD9:=Lib.hid (HD8.out.push_an ho8 hb8 hg8 hf8)
    have HB9:=Lib.hid (HB8.out.trans (hb8.trans (Below.setG (w:=w8) (j:=5) HD8.out.hB (.slice A8 (v.nn+1) c8))))
    clear rX ho8 hb8 hg8 hf8 d5 f5 j0 j1 HD8 HB8
    go_wp2_with (at_builtin;refine wpList_pushT (enc:=encAr) rfl (.tmp 65) (.tmp 69) rfl uAr infoAr encAr_one rfl (fun _=>rfl) (by decide) rfl HD9.out.oa HD9.out.le (⟨wide,(nn:Int)⟩:Arr) _ rfl (by rw [setCell_size];rfl) hma.out.1 hma.out.2 ?_;intro A9 c9 w9 ho9 hb9 hg9 hf9;have rX:=HD9.out.row.grown hg9 (fun e=>(HD9.out.oa.ne_row HD9.out.row (by decide)) _ e.symm rfl);have e92:w9.cell? ⟨g,2,none⟩=some (.slice v.Aa v.na v.ca):=cell_rowV rX rfl;have f92:=frozen_rowV' rX 2)
    have D10:=HD9.out.push_arrs ho9 hb9 hg9 hf9
    have hRR:=HR.out
    refine⟨rfl,_,results_none rfl _ _ _,rfl,HB9.out.trans (hb9.trans (Below.setG HD9.out.hB _)),_,RC.toRD (s:={ s with arrs:=s.arrs++[⟨wide,(nn:Int)⟩],an:=s.an++[x] }) D10 ?_ ?_⟩
    ·have:=hfew.out
     show s.cn.length+ws.tail.tail.length≤9000
     rw [List.length_tail,List.length_tail];omega
    ·have F:=hfm.out
     refine⟨by simp [F.an],by have:=F.an;simp;omega,?_,?_,F.locs,F.code,fun i hi=>(F.ins i hi).mono (by simp) (Nat.le_refl _),F.cn⟩
     ·intro q hq
      rcases List.mem_append.1 hq with hq | hq
      ·exact F.sizes q hq
      ·rw [List.mem_singleton.1 hq]
       have h0:=(sum_take_le F.sizes s.arrs.length).1
       rw [List.take_length] at h0
       dsimp only
       omega
     ·show ((s.arrs++[(⟨wide,(nn:Int)⟩:Arr)]).map (fun x:Arr=>x.size)).sum≤65536
      rw [←sumA_cells]
      have:sumA (s.arrs++[(⟨wide,(nn:Int)⟩:Arr)])=sumA s.arrs+nn:=by
       rw [sumA_cells,sumA_cells,List.map_append,List.sum_append];simp
      rw [this];omega
theorem array_badR(B g n:Nat)(v:RVs)(s:AS)(ws:List Wd)(w:World)(wide:Bool)(h:RD B g n w s ws v)(hF:freshE s (nextW n ws).1=0)(hL:s.an.length < 8)(hV:(valueL s (nextW n ws.tail).1).2=0)(hR:¬ (1≤(valueL s (nextW n ws.tail).1).1∧((valueL s (nextW n ws.tail).1).1:Int)+s.cells≤65536)) :
  Calls Tryz.prog 120 #[.pointer (some ⟨g,0,none⟩),.bool wide] w fun e w'=>FailsB B w ((nextW n ws.tail).2:Int) 2 e w':=by
 have H1:=asmFresh_ok B g n v s ws w h hF
 obtain⟨x,z,hx⟩:∃ x z,nextW n ws=(x,z):=⟨_,_,rfl⟩
 rw [hx] at H1
 dsimp only at H1
 have H1':=Lib.hid H1
 have hgl:=h.row.lt
 have hxl:x.length≤9000:=by have:=next_len h.wm (n:=n);rw [hx] at this;exact this
 have hnl:v.nn=s.an.length:=(h.on.length (fun _=>rfl) (by decide)).symm
 have d16:decide ((v.nn:Int) < 8)=true:=by simp;omega
 have d16':decide (v.nn < 8)=true:=by simp;omega
 have hm:Hid (v.nn+1≤maxLen∧(v.nn+1) * 16≤140737488355328):=⟨by simp [maxLen];omega,by omega⟩
 have hfew:=Lib.hid h.few
 have hfm:=Lib.hid h.fm
 have HV:=Lib.hid hV
 have hvl:=valueL_lt h.fm.cn (nextW n ws.tail).1
 obtain⟨y,zy,hy⟩:∃ y zy,nextW n ws.tail=(y,zy):=⟨_,_,rfl⟩
 obtain⟨nn,hnn⟩:∃ nn,nn=(valueL s (nextW n ws.tail).1).1:=⟨_,rfl⟩
 have HER:Hid (nn=(valueL s (nextW n ws.tail).1).1∧nextW n ws.tail=(y,zy)):=⟨hnn,hy⟩
 rw [←hnn] at hR hvl
 rw [hy]
 dsimp only
 have hna:v.na=s.arrs.length:=(h.oa.length (fun _=>rfl) (by decide)).symm
 have hsl:=sum_take_le h.fm.sizes
 have hcl:sumA s.arrs≤65536:=by rw [sumA_cells];exact h.fm.cells
 have hsA:s.cells=sumA s.arrs:=(sumA_cells _).symm
 have han:=h.fm.an
 have hma:Hid (v.na+1≤maxLen∧(v.na+1) * 16≤140737488355328):=⟨by simp [maxLen];omega,by omega⟩
 have HNA:=Lib.hid hna
 have hna8:v.na≤8:=by have:=h.fm.few;omega
 have HSL:=Lib.hid hsl
 have HSZ:=Lib.hid h.fm.sizes
 clear H1 hF hV hxl hnn hy hnl hsl hna
 rw [hsA] at hR
 go_enter Tryz.func120,Tryz.ntmps120
 go_wp2_with fail
 refine H1'.out.mono ?_
 rintro e w1 ⟨rfl,hN⟩
 have HR:=Lib.hid hR
 have HCL:=Lib.hid hcl
 have HVL:=Lib.hid hvl
 clear hR hcl hvl hsA han
 obtain⟨A',k',c',D1,hg1⟩:=h.next (ws':=ws.tail) (by rw [List.length_tail];omega) hN
 have hB1:=Lib.hid (h.toBelow hg1)
 clear H1' hN h
 have r2:=rowV.new w1 172 #[.string (strB x),.int .i64 (z:Int)]
 have hl2:=r2.lt
 have b12:Below w1.heap.size w1 (w1.alloc (.cells #[.string (strB x),.int .i64 (z:Int)] 172)):=balloc (Below.refl _ _) _
 obtain⟨w2,hw2⟩:∃ w2,w2=w1.alloc (.cells #[.string (strB x),.int .i64 (z:Int)] 172):=⟨_,rfl⟩
 rw [←hw2] at r2 hl2 b12
 obtain⟨a0,a1⟩:=two_cellsV r2
 have D2:=D1.below b12
 have HD2:=Lib.hid D2
 have HB2:=Lib.hid (hB1.out.trans (b12.mono D1.le))
 have c6:w2.cell? ⟨g,5,none⟩=some (.slice v.An v.nn v.cn):=cell_rowV D2.row rfl
 clear D1 D2 b12 hg1
 go_wp2_with fail
 rw [←hw2]
 clear hw2
 refine wp_region_quiet_tail 7 (by kernel_rfl) (by kernel_rfl) ?_
 simp only [List.take_succ_cons,List.take_zero,List.drop_succ_cons,List.drop_zero]
 repeat (go_big_quiet_step (fail))
 refine wpQuiet_nil ?_
 intro _ hw'
 obtain⟨nr,hw''⟩:=hw'
 subst hw''
 go_wp2_with fail
 refine (demand_ok x z 6 _).mono ?_
 rintro e w3 ⟨rfl,hb3⟩
 have b23:Below w2.heap.size w2 w3:=(bdrew (Below.refl _ _) nr).trans (hb3.mono (Nat.le_refl _))
 have D3:=HD2.out.below b23
 have r3:=r2.below b23 hl2
 have HB3:=Lib.hid (HB2.out.trans (b23.mono HD2.out.le))
 have hzg:w1.heap.size≠g:=by have h1:=D3.row.lt;have h2:=r3.lt;intro e;rw [e] at r3;have:=D3.row;unfold rowV at this r3;rw [this] at r3;injection r3 with r3;injection r3 with _ r3;exact absurd r3 (by decide)
 have HV2:Hid (Calls Tryz.prog 126 #[.pointer (some ⟨g,0,none⟩)] w3 fun e w'=>∃ A4 k4 c4,e=.returned (.tuple #[.int .i64 (nn:Int),.agg #[.string (strB y),.int .i64 (zy:Int)]])∧RD B g n w' s ws.tail.tail ((v.at_ A' k' c').at_ A4 k4 c4)∧w3.grownBy w' (some g)):=by
  show Calls _ _ _ _ _
  have:=asmValue_ok B g n _ s ws.tail w3 D3 HV.out
  rw [←HER.out.1,HER.out.2] at this
  refine this.mono ?_
  rintro e w' ⟨rfl,hN⟩
  obtain⟨A4,k4,c4,D4,hg4⟩:=D3.next (ws':=ws.tail.tail) (by rw [List.length_tail];omega) hN
  exact⟨A4,k4,c4,rfl,D4,hg4⟩
 have HD3:=Lib.hid D3
 clear D3 b23 hb3 HD2 HB2 a0 a1 c6
 go_wp2_with fail
 refine HV2.out.mono ?_
 rintro e w4 ⟨A4,k4,c4,rfl,D4,hg4⟩
 have r4:=r3.grown hg4 (fun e=>hzg (by injection e))
 have HB4:=Lib.hid (HB3.out.trans (HD3.out.toBelow hg4))
 have s5:=rowV.new w4 172 #[.string (strB y),.int .i64 (zy:Int)]
 have hl5:=s5.lt
 have b45:Below w4.heap.size w4 (w4.alloc (.cells #[.string (strB y),.int .i64 (zy:Int)] 172)):=balloc (Below.refl _ _) _
 obtain⟨w5,hw5⟩:∃ w5,w5=w4.alloc (.cells #[.string (strB y),.int .i64 (zy:Int)] 172):=⟨_,rfl⟩
 rw [←hw5] at s5 hl5 b45
 have D5:=D4.below b45
 have hg4s:g < w4.heap.size:=D4.row.lt
 have c2:w4.cell? ⟨g,2,none⟩=some (.slice v.Aa v.na v.ca):=cell_rowV D4.row rfl
 have HA5:Hid (Arrs w5 v.Aa v.na v.ca s.arrs):=D5.oa.toArrs (fun x hx=>WalkArith.wf_i64 (by have:=hfm.out.sizes x hx;omega))
 have HD5:=Lib.hid D5
 have HB5:=Lib.hid (HB4.out.trans (b45.mono D4.le))
 clear D4 D5 hg4 HD3 HB4 HB3 HV2 r3
 go_wp2_with fail
 rw [←hw5]
 go_loopw [7,9,32] (fun s7 _ s32 wr=>∃ k:Nat,k≤v.na∧s32=.int .i64 (k:Int)∧s7=.int .i64 ((nn:Int)+sumA (s.arrs.take k))∧Below w5.heap.size w5 wr) (fun _ _ s32 _=>v.na-(intOf s32).toNat)
 case atStart=>exact⟨0,Nat.zero_le _,rfl,by simp [sumA],Below.refl _ _⟩
 case round=>
  obtain⟨k,hk,rfl,rfl,hb⟩:=hrel
  have hS:=HSL.out k
  obtain⟨sk,hsk⟩:∃ sk,sk=sumA (s.arrs.take k):=⟨_,rfl⟩
  have hcl:=HCL.out
  have hvl:=HVL.out
  by_cases hlt:k < v.na
  ·have e1:decide ((k:Int) < (v.na:Int))=true:=by simp;omega
   have e1':decide (k < v.na)=true:=by simp;omega
   obtain⟨b,off,hAb,hbl,hcell⟩:=(HA5.out.below hb).get hlt
   obtain⟨q1,q2⟩:=hcell k hlt
   have hnx:=sumA_take (l:=s.arrs) (k:=k) (by rw [←HNA.out];exact hlt)
   have hsz:=HSZ.out (gA s.arrs k) (gA_mem (by rw [←HNA.out];exact hlt))
   have HN:=Lib.hid hnx
   have HT:=Lib.hid hsk
   obtain⟨y2,hy2⟩:∃ y2,y2=gA s.arrs k:=⟨_,rfl⟩
   rw [←hy2] at q1 q2 hsz hnx
   have HY:=Lib.hid hy2
   rw [←hsk] at hS hnx ⊢
   clear hcell hy2 hnx hsk
   obtain⟨wd,sz⟩:=y2
   dsimp only at q1 q2 hsz
   rw [hAb]
   have hb':=balloc hb (.cells #[.bool wd,.int .i64 sz] 68)
   have hbw:b < wr.heap.size:=World.block_lt_of_cell? wr _ q1
   go_wp2_with fail
   go_roundw
   case rel=>exact⟨k+1,by omega,by go_num,by rw [HN.out,←HT.out,←HY.out];go_num,hb'⟩
   case measure=>simp [intOf];omega
  ·have e1:decide ((k:Int) < (v.na:Int))=false:=by simp;omega
   have e1':decide (k < v.na)=false:=by simp;omega
   obtain rfl:k=v.na:=by omega
   have hfull:sumA (s.arrs.take v.na)=sumA s.arrs:=by rw [HNA.out,List.take_length]
   have hsa:=hsk.trans hfull
   have hR:=HR.out
   rw [←hfull,←hsk] at hR
   have r5:=r4.below b45 r4.lt
   have r6:=r5.below hb r5.lt
   have s6:=s5.below hb hl5
   have D6:=HD5.out.below hb
   obtain⟨e0,e10⟩:=two_cellsV s6
   have HB6:=Lib.hid (HB5.out.trans (hb.mono HD5.out.le))
   have HD6:=Lib.hid D6
   have HT:=Lib.hid hsk
   rw [←hsk]
   clear hS HSL HSZ HA5 HD5 HB5 hw5 s5 hb r5 r4 hl5 hsk hfull hsa D6 c2 b45
   by_cases hn1:0 < nn
   ·have dn:decide ((0:Int) < (nn:Int))=true:=by simp;omega
    have dn':decide (0 < nn)=true:=by simp;omega
    have dc:decide ((nn:Int)+sk≤65536)=false:=by simp;omega
    go_wp2_with fail
    refine (demand_bad y zy 2 _).mono ?_
    rintro e w7 ⟨rfl,hb7⟩
    have hE:=Lib.hid (HB6.out.trans (hb7.mono HD6.out.le))
    go_wp2_with fail
    exact⟨rfl,rfl,hE.out⟩
   ·have dn:decide ((0:Int) < (nn:Int))=false:=by simp;omega
    have dn':decide (0 < nn)=false:=by simp;omega
    go_wp2_with fail
    refine (demand_bad y zy 2 _).mono ?_
    rintro e w7 ⟨rfl,hb7⟩
    have hE:=Lib.hid (HB6.out.trans (hb7.mono HD6.out.le))
    go_wp2_with fail
    exact⟨rfl,rfl,hE.out⟩
theorem array_any(B g n:Nat)(v:RVs)(s:AS)(ws:List Wd)(w:World)(wide:Bool)(h:RD B g n w s ws v) :
  Calls Tryz.prog 120 #[.pointer (some ⟨g,0,none⟩),.bool wide] w (DoesL B g n w (arrayL n wide s ws)):=by
 unfold arrayL
 dsimp only
 by_cases hF:freshE s (nextW n ws).1=0
 ·rw [if_neg (by simp [hF])]
  by_cases hL:8≤s.an.length
  ·rw [if_pos hL];exact array_badM B g n v s ws w wide h hF hL
  ·rw [if_neg hL]
   by_cases hV:(valueL s (nextW n ws.tail).1).2=0
   ·rw [if_neg (by simp [hV])]
    by_cases hR:((valueL s (nextW n ws.tail).1).1:Int) < 1∨65536 < ((valueL s (nextW n ws.tail).1).1:Int)+s.cells
    ·rw [if_pos hR];exact array_badR B g n v s ws w wide h hF (by omega) hV (by omega)
    ·rw [if_neg hR];exact array_ok B g n v s ws w wide h hF (by omega) hV (by omega)
   ·rw [if_pos hV];exact array_badV B g n v s ws w wide h hF (by omega) hV
 ·rw [if_pos hF];exact array_badF B g n v s ws w wide h hF
end Go.Proofs.YtepoclhdklgnhaaGreatDoor
