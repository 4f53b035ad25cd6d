/- Wp Wq Wr Xv. -/
import Derived.Test.YtpaplehcafeeaaaGreatDoorLE26
import Derived.Test.YtpaplehcafeeaaaGreatDoorLE05
import Derived.Laws.CopyOwn
import Derived.Deep.RegionLaw
import Derived.Test.YtpaplehcafeeaaaGreatDoorLE19
import Derived.Defers
import Derived.Recover
import Derived.Laws.Pointers
import Derived.WalkMore
import Derived.Test.YtpaplehcafeeaaaGreatDoorLE23
import Derived.Test.YtpaplehcafeeaaaGreatDoorLE07
import Derived.Test.YtpaplehcafeeaaaGreatDoorLE21
set_option maxRecDepth 100000
set_option maxHeartbeats 40000000
set_option linter.unusedVariables false
set_option linter.unusedSimpArgs false
namespace Go.Proofs.YtpaplehcafeeaaaGreatDoor
open Go.RowKit Go.Proofs
theorem flow_both:∀ f:Nat,LstC f∧BlkC f:=by
 intro f
 induction f using Nat.strongRecOn with
 | ind f ih=>
  have hL:LstC f:=list_of (fun k hk=>(ih k hk).2)
  exact⟨hL,block_of hL⟩
theorem uI:Tryz.prog.underlying 52=some (.slice 3):=by kernel_rfl
theorem tI:Tryz.prog.underlying 52=some (.slice (Tryz.prog.elem 52)):=by kernel_rfl
theorem eI:Tryz.prog.elem 52=3:=by kernel_rfl
theorem sI:∀ W:World,(sizeOf 3).run Tryz.prog W=.ok 1 W:=fun _=>by kernel_rfl
theorem infoI:(Tryz.prog.info? 3).map (fun i=>(i.zero,i.size,i.bytes))=some (some (.int .i64 0),1,8):=by kernel_rfl
theorem mul_one_any(k:Nat)(hk:k≤1000000000)(w:World):Calls Tryz.prog 108 #[.int .u64 1,.int .u64 (k:Int)] w fun e w'=>e=.returned (.tuple #[.int .u64 0,.int .u64 (k:Int)])∧w'=w:=by
 have h:=Tryz.bits_Mul 1 k (by omega) (by omega) w
 rw [Nat.one_mul,Nat.div_eq_of_lt (by omega),Nat.mod_eq_of_lt (by omega)] at h
 exact h
def repTo(z:Int)(k m:Nat):List Int:=List.replicate m z++List.replicate (k-m) 0
theorem repTo_length(z:Int)(k m:Nat)(h:m≤k):(repTo z k m).length=k:=by simp [repTo];omega
theorem repTo_zero(z:Int)(k:Nat):repTo z k 0=List.replicate k 0:=by simp [repTo]
theorem repTo_all(z:Int)(k:Nat):repTo z k k=List.replicate k z:=by simp [repTo]
theorem repTo_splice(z:Int)(k m j:Nat)(h:m+j≤k):splice ((repTo z k m).map (Value.int .i64)) m (List.replicate j (Value.int .i64 z))=(repTo z k (m+j)).map (Value.int .i64):=by
 unfold splice repTo
 simp only [List.map_append,List.map_replicate]
 rw [List.take_left' (by simp),List.length_replicate,List.drop_append,List.drop_of_length_le (by simp),List.nil_append,List.length_replicate,List.drop_replicate]
 rw [show k-m-(m+j-m)=k-(m+j) by omega,←List.append_assoc,List.replicate_append_replicate]
theorem sz1:(Tryz.prog.info? 3).map (·.size)=some 1:=by kernel_rfl
theorem repeat_any(A:Option Addr)(c k:Nat)(z:Int)(w:World)(hx:Ints w A 1 c [z])(hk':k≤1000000) :
  Calls Tryz.prog 138 #[.slice A 1 c,.int .i64 (k:Int)] w fun e w'=>∃ g,e=.returned (.slice (some ⟨g,0,none⟩) k k)∧w.heap.size≤g∧Row (Value.int .i64) w' g 3 (List.replicate k z)∧Below w.heap.size w w':=by
 have d0:decide ((k:Int) < 0)=false:=by simp
 have d2:decide ((9223372036854775807:Int) < (k:Int))=false:=by simp;omega
 have e1:IntKind.u64.wrap (k:Int)=k:=by simp [IntKind.wrap,IntKind.bits,IntKind.signed];omega
 have hmk:=run_make_row (P:=Tryz.prog) (enc:=Value.int .i64) uI infoI rfl (k:Int) (by omega) (by omega) (by omega)
 obtain⟨b,off,rfl,hb,hcell⟩:=hx.get (k:=0) (by omega)
 have c0:=hcell 0 (by omega)
 simp only [Nat.add_zero] at c0
 have hmul:=mul_one_any k (by omega) w
 have Hmul:=Lib.hid hmul
 clear hmul hcell
 go_enter Tryz.func138,Tryz.ntmps138
 go_wp2_with fail
 refine Hmul.out.mono ?_
 rintro e w1 ⟨rfl,hw1⟩
 obtain rfl:w=w1:=hw1.symm
 go_upto_region 7 with fail
 obtain⟨W,hW⟩:∃ W,W=w.alloc (rowObj (Value.int .i64) 3 (List.replicate k 0)):=⟨_,rfl⟩
 have rg:=Row.new (enc:=Value.int .i64) w 3 (List.replicate k 0)
 have hbe:=(Below.refl w.heap.size w).alloc (Nat.le_refl _) (rowObj (Value.int .i64) 3 (List.replicate k 0))
 rw [←hW] at rg hbe
 rw [←hW]
 clear hW
 have c1:=(hbe.cell (p:=⟨b,off,none⟩) hb).trans c0
 rw [←repTo_zero z k] at rg
 have hmin:Hid ((List.replicate (min 1 k) (Value.int .i64 z)).length=Nat.min 1 k):=by show _=_;rw [List.length_replicate]
 have hpos:Hid (0 < (List.replicate (min 1 k) (Value.int .i64 z)).length→(some (⟨w.heap.size,0,none⟩:Addr))=some ⟨w.heap.size,0,none⟩∧∃ ad,(some (⟨b,off,none⟩:Addr))=some ad∧∀ j v,(List.replicate (min 1 k) (Value.int .i64 z))[j]?=some v→W.cell? (ad.add j)=some v):=fun _=>⟨rfl,_,rfl,fun j v hj=>by
  rw [List.getElem?_replicate] at hj
  split at hj
  ·injection hj with hj
   subst hj
   obtain rfl:j=0:=by omega
   rw [addr_add,Nat.add_zero,c1];rfl
  ·cases hj⟩
 have hfit:Hid (0+(List.replicate (min 1 k) (Value.int .i64 z)).length≤((repTo z k 0).map (Value.int .i64)).length):=by show 0+_≤_;rw [List.length_map,repTo_length _ _ _ (by omega),List.length_replicate];omega
 go_wp2_with (refine wpList_copy_splice (o:=⟨some 33,_,_,_,_,_⟩) rfl (.tmp 31) (.tmp 32) _ _ rfl 3 uI sz1 _ _ _ _ _ _ rfl rfl w.heap.size 0 ((repTo z k 0).map (Value.int .i64)) 3 rg (List.replicate (min 1 k) (Value.int .i64 z)) hmin.out hpos.out hfit.out (fun v hv=>by rw [(List.mem_replicate.1 hv).2];rfl) w.heap.size w hbe (Nat.le_refl _) ?_;intro w2 hrow2 hb2)
 have hr2:Row (Value.int .i64) w2 w.heap.size 3 (repTo z k (min 1 k)):=by
  have h1:=hrow2.out
  rw [repTo_splice z k 0 (min 1 k) (by omega),Nat.zero_add] at h1
  exact h1
 clear hrow2 hpos hfit hmin rg c1 hbe hmk
 go_loopw [8] (fun i wr=>∃ m:Nat,(k=0∨1≤m)∧m≤k∧i=.int .i64 (m:Int)∧Row (Value.int .i64) wr w.heap.size 3 (repTo z k m)∧Below w.heap.size w wr) (fun i _=>k-(intOf i).toNat)
 case atStart=>exact⟨min 1 k,by omega,by omega,by simp [Nat.min_comm],hr2,hb2⟩
 case round=>
  clear hr2 hb2
  obtain⟨m,hm1,hm,rfl,hr3,hb3⟩:=hrel
  by_cases hlt:m < k
  ·have hi3:=hr3.ints (c:=k) (repTo_length z k m (by omega)) (Nat.le_refl _)
   have r4:=run_cut_l (P:=Tryz.prog) (A:=some ⟨w.heap.size,0,none⟩) (n:=k) (c:=k) tI eI sI (m:Int) (by omega) (by omega)
   simp only [Int.toNat_natCast,if_neg (show ¬ k=m by omega),Option.map_some,addr_add,Nat.zero_add] at r4
   obtain⟨r5,v5⟩:=hi3.cut_h tI eI sI (m:Int) (by omega) (by omega)
   simp only [Int.toNat_natCast] at r5 v5
   have hmin:Hid ((List.replicate (min m (k-m)) (Value.int .i64 z)).length=Nat.min m (k-m)):=by show _=_;rw [List.length_replicate]
   have hcell:∀ j,j < m→wr.cell? ⟨w.heap.size,j,none⟩=some (.int .i64 z):=fun j hj=>by
    rw [hr3.cell 0 (by rw [repTo_length _ _ _ (by omega)];omega)]
    simp [repTo,List.getD,List.getElem?_append,hj]
   have hsrc:Hid (∀ j v,(List.replicate (min m (k-m)) (Value.int .i64 z))[j]?=some v→wr.drew.cell? ((⟨w.heap.size,0,none⟩:Addr).add j)=some v):=fun j v hj=>by
    rw [List.getElem?_replicate] at hj
    split at hj
    ·injection hj with hj
     subst hj
     rw [addr_add,Nat.zero_add]
     exact hcell j (by omega)
    ·cases hj
   have hfit:Hid (m+(List.replicate (min m (k-m)) (Value.int .i64 z)).length≤((repTo z k m).map (Value.int .i64)).length):=by show _≤_;rw [List.length_map,repTo_length _ _ _ (by omega),List.length_replicate];omega
   have h1:Hid (∀ v∈List.replicate (min m (k-m)) (Value.int .i64 z),v.oneCell'=true):=fun v hv=>by rw [(List.mem_replicate.1 hv).2];rfl
   have hsp:=repTo_splice z k m (min m (k-m)) (by omega)
   have Hsp:=Lib.hid hsp;clear hsp hcell
   have ew:IntKind.i64.wrap ((m:Int)+((min m (k-m):Nat):Int))=(m:Int)+((min m (k-m):Nat):Int):=IntWalk.i64_in _ (by omega)
   go_wp2_with fail
   go_region_law (first
    | (refine step_copy_splice (w:=wr.drew) (o:=⟨some 45,_,_,_,_,_⟩) rfl (.tmp 41) (.tmp 44) _ _ rfl 3 uI sz1 (some ⟨w.heap.size,m,none⟩) (some ⟨w.heap.size,0,none⟩) (k-m) (k-m) m k (by simp [Act.eval,Act.put]) (by simp [Act.eval,Act.put]) w.heap.size m ((repTo z k m).map (Value.int .i64)) 3 hr3.drew (List.replicate (min m (k-m)) (Value.int .i64 z)) hmin.out (fun _=>⟨rfl,_,rfl,hsrc.out⟩) hfit.out h1.out w.heap.size w hb3.drew (Nat.le_refl _) ?_;intro w4 hrow4 hb4))
   all_goals
    clear r4 r5 ew
    simp only [Act.put,List.getElem_toArray,List.getElem_cons_succ,List.getElem_cons_zero,List.setIfInBounds_toArray,List.set_cons_succ,List.set_cons_zero]
    go_wp2_with fail
    go_roundw
    case rel=>
     have h4:=hrow4.out
     rw [Hsp.out] at h4
     exact⟨m+min m (k-m),by omega,by omega,by go_num,h4,hb4⟩
    case measure=>simp [intOf];omega
  ·obtain rfl:m=k:=by omega
   go_wp2_with fail
   go_ret
   rw [repTo_all] at hr3
   exact⟨_,rfl,Nat.le_refl _,hr3,hb3⟩
abbrev KI0(w0 w w':World):Prop:=Below w0.heap.size w w'
theorem one_int(w:World)(a:Int):Ints (w.alloc (.cells #[.int .i64 a] 3)) (some ⟨w.heap.size,0,none⟩) 1 1 [a]:=
 ⟨rfl,Nat.le_refl _,fun _=>⟨w.heap.size,0,rfl,by simp,fun i hi=>by
  obtain rfl:i=0:=by omega
  simp [gi]⟩⟩
theorem begin_any(A:Option Addr)(n cc:Nat)(hn:n≤1024)(w:World):Calls Tryz.prog 106 #[.slice A n cc] w fun e w'=>∃ g pb,e=.returned (.pointer (some ⟨g,0,none⟩))∧FR w g pb w' A n cc 0 (List.replicate n (-1)):=by
 have d0:decide ((n:Int)≤1024)=true:=by simp;omega
 have d0':decide (n≤1024)=true:=by simp;omega
 have Hrep:=Lib.hid (repeat_any (some ⟨w.heap.size,0,none⟩) 1 n (-1) (w.alloc (.cells #[.int .i64 (-1)] 3)) (one_int w _) (by omega))
 go_enter Tryz.func106,Tryz.ntmps106
 go_wp2_with fail
 refine (demandF_ok _ _ _).mono ?_
 rintro e w2 ⟨rfl,hw2⟩
 obtain rfl:=hw2.symm
 go_wp2_with fail
 refine Hrep.out.mono ?_
 rintro e w3 ⟨pb,rfl,hpb,hrow,hb⟩
 have hb2:=(balloc (Below.refl _ w) (.cells #[.int .i64 (-1)] 3)).trans (hb.mono (by simp))
 have hsz:w.heap.size+1≤pb:=by simpa using hpb
 have HR:=Lib.hid (And.intro hrow (And.intro hb2 hsz))
 clear hrow hb hb2 hpb hsz
 go_wp2_with fail
 go_ret
 obtain⟨hrow,hb2,hsz⟩:=HR.out
 have g2:=Below.refl w3.heap.size w3 |>.alloc (Nat.le_refl _) (.cells #[.slice A n cc,.int .i64 0,.slice (some ⟨pb,0,none⟩) n n] 194)
 exact⟨_,pb,rfl,rowV.new w3 _ _,hrow.below g2 hrow.lt,by simp,balloc hb2 _,hb2.size,by omega⟩
theorem begin_long(A:Option Addr)(n cc:Nat)(hn:1024 < n)(hn2:n≤1000000000)(w:World):Calls Tryz.prog 106 #[.slice A n cc] w fun e w'=>e=.panicked [{ v:=failF 0 6,recovered:=false }]∧w'=w:=by
 have d0:decide ((n:Int)≤1024)=false:=by simp;omega
 have d0':decide (n≤1024)=false:=by simp;omega
 go_enter Tryz.func106,Tryz.ntmps106
 go_wp2_with fail
 refine (demandF_bad _ _ _).mono ?_
 rintro e w2 ⟨rfl,hw2⟩
 subst hw2
 exact⟨rfl,rfl,rfl⟩
theorem whole_any(w0:World)(A:Option Addr)(n cc:Nat)(c:List Ins)(hc0:Codes w0 A n cc c)(hn:n≤1024)(g pb:Nat)(w:World)(P:List Int)(hF:FR w0 g pb w A n cc 0 P) :
  Calls Tryz.prog 107 #[.pointer (some ⟨g,0,none⟩)] w fun e w'=>match parse c with
   | .bad q=>e=.panicked [{ v:=failF q 15,recovered:=false }]∧Below w0.heap.size w w'
   | .ok t _=>(∃ A5 n5 c5,e=.returned (.slice A5 n5 c5))∧∃ P',FR w0 g pb w' A n cc n P'∧PartOk P' 0 t:=by
 have hl:=hc0.1
 have h1:=(flow_both (n+1)).1 w0 A n cc c hc0 hn g pb w 0 none 0 P hF trivial trivial (Nat.zero_le _) (by omega) (by omega)
 have Hlen:=Lib.hid hl
 have HP:Hid (parse c=(lst c (n+1) 0 false 0).bind fun t m=>if m=n then .ok t m else .bad m):=by show _=_;unfold parse;rw [hl]
 clear hl
 have HC:=Lib.hid h1
 clear h1
 cases hx:lst c (n+1) 0 false 0 with
 | bad q=>
  rw [hx] at HP
  have HC2:Hid (Calls Tryz.prog 139 #[.pointer (some ⟨g,0,none⟩),.int .i64 0,.pointer none] w fun e w'=>e=.panicked [{ v:=failF q 15,recovered:=false }]∧Below w0.heap.size w w'):=by
   show Calls _ _ _ _ _
   refine HC.out.mono fun e w' h=>?_
   rw [show (none:Option LV).isSome=false from rfl,hx] at h
   exact h
  have HP2:Hid (parse c=.bad q):=HP.out
  clear HC HP hx
  rw [HP2.out]
  go_enter Tryz.func107,Tryz.ntmps107
  go_wp2_with fail
  refine HC2.out.mono ?_
  rintro e w' ⟨rfl,hb⟩
  exact⟨rfl,rfl,hb⟩
 | ok t m=>
  rw [hx] at HP
  obtain⟨-,hm,hml,-,-⟩:=lst_ok hx
  have hmn:m≤n:=by have:=Hlen.out;have:=hml (Nat.zero_le _);omega
  have HC2:Hid (Calls Tryz.prog 139 #[.pointer (some ⟨g,0,none⟩),.int .i64 0,.pointer none] w fun e w'=>(∃ A5 n5 c5,e=.returned (.slice A5 n5 c5))∧∃ P',FR w0 g pb w' A n cc m P'∧PartOk P' 0 t∧KI0 w0 w w'):=by
   show Calls _ _ _ _ _
   refine HC.out.mono fun e w' h=>?_
   rw [show (none:Option LV).isSome=false from rfl,hx] at h
   obtain⟨h1,P',lv',f1,f2,f3,f4,f5,f6⟩:=h
   exact⟨h1,P',f1,f3,f6.below⟩
  clear HC hx hm hml
  by_cases hmm:m=n
  ·have q0:((m:Int)==(n:Int))=true:=by simp;omega
   have q0':(m==n)=true:=by simp;omega
   have HP2:Hid (parse c=.ok t m):=by show _=_;rw [HP.out];show (if m=n then _ else _)=_;rw [if_pos hmm]
   have Hmm:=Lib.hid hmm
   clear hmm
   rw [HP2.out]
   go_enter Tryz.func107,Tryz.ntmps107
   go_wp2_with fail
   refine HC2.out.mono ?_
   rintro e w1 ⟨⟨A5,n5,c5,rfl⟩,P',hF1,hp1,hb1⟩
   obtain⟨e0,e1,e2⟩:=hF1.cells
   have HF1:=Lib.hid (And.intro hF1 (And.intro hp1 hb1))
   clear hF1 hp1 hb1
   go_upto_region 2 with fail
   go_quiet (first | (go_at_call 137;exact (demandF_ok _ _ _).mono fun e w2 h=>⟨h.1,_,h.2⟩))
   go_wp2_with fail
   refine bodyPost_ret (results_tmp rfl _ _ _) rfl ?_
   have hF2:=HF1.out.1.drewN nq
   rw [Hmm.out] at hF2
   exact⟨⟨_,_,_,rfl⟩,P',hF2,HF1.out.2.1⟩
  ·have q0:((m:Int)==(n:Int))=false:=by simp;omega
   have q0':(m==n)=false:=by simp;omega
   have HP2:Hid (parse c=.bad m):=by show _=_;rw [HP.out];show (if m=n then _ else _)=_;rw [if_neg hmm]
   clear hmm
   rw [HP2.out]
   go_enter Tryz.func107,Tryz.ntmps107
   go_wp2_with fail
   refine HC2.out.mono ?_
   rintro e w1 ⟨⟨A5,n5,c5,rfl⟩,P',hF1,hp1,hb1⟩
   obtain⟨e0,e1,e2⟩:=hF1.cells
   have HF1:=Lib.hid (And.intro hF1 (And.intro hp1 hb1))
   clear hF1 hp1 hb1
   go_upto_region 2 with fail
   refine wp_region_quiet_tail 14 (by kernel_rfl) (by kernel_rfl) ?_
   simp only [List.take_succ_cons,List.take_zero,List.drop_succ_cons,List.drop_zero]
   repeat (go_big_quiet_step (fail))
   refine wpQuiet_nil ?_
   intro _ hw'
   obtain⟨nr,hw''⟩:=hw'
   subst hw''
   go_wp2_with fail
   refine (demandF_bad _ _ _).mono ?_
   rintro e w2 ⟨rfl,hw2⟩
   subst hw2
   exact⟨rfl,rfl,bdrew HF1.out.2.2 nr⟩
theorem rescueF_idle(r0 r1:Nat)(w:World) :
  CallsD Tryz.prog 105 #[.pointer (some ⟨r0,0,none⟩),.pointer (some ⟨r1,0,none⟩)] .returning w fun e u' w'=>e=.returned (.tuple #[])∧u'=.returning∧w'=w:=by
 refine callsD_of_wpS Tryz.func105 rfl fun c₀ cs hu=>?_
 apply wpS_seq
 apply wpS_region
 simp [wpOpsS,go_sem,recoverD,hu,Tryz.ntmps105,Exit.thenS]
 refine wpS_of_wp ?_
 go_hide hQ
 have HQ:=Lib.hid hQ
 have HU:=Lib.hid hu
 clear hQ hu
 simp only [List.size_toArray,List.length_cons,List.length_nil,Nat.reduceAdd,Nat.reduceSub,Array.replicate_succ,Array.replicate_zero,List.push_toArray,List.append_toArray,List.nil_append,List.cons_append,List.setIfInBounds_toArray,List.set_cons_zero,List.set_cons_succ]
 go_wp2_with fail
 have hQ:=HQ.out
 have hu:=HU.out
 rw [←hQ]
 clear HQ HU hQ
 cases c₀
 simp_all [bodyPostS,results,Tryz.results105]
theorem rescueF_bad(B r0 r1:Nat)(y z a er:Int)(w:World)(h0:rowV w r0 3 #[.int .i64 y])(h1:rowV w r1 31 #[.int .i64 z])(hB0:B≤r0)(hB1:B≤r1)(h01:r0≠r1) :
  CallsD Tryz.prog 105 #[.pointer (some ⟨r0,0,none⟩),.pointer (some ⟨r1,0,none⟩)] (.panicking [{ v:=failF a er,recovered:=false }]) w fun e u' w'=>
   e=.returned (.tuple #[])∧u'=.panicking [{ v:=failF a er,recovered:=true }]∧w'.cell? ⟨r0,0,none⟩=some (.int .i64 a)∧w'.cell? ⟨r1,0,none⟩=some (.int .i64 er)∧Below B w w':=by
 refine callsD_of_wpS Tryz.func105 rfl fun c₀ cs hu=>?_
 apply wpS_seq
 apply wpS_region
 simp [wpOpsS,go_sem,recoverD,hu,Tryz.ntmps105,Exit.thenS,failF]
 refine wpS_of_wp ?_
 go_hide hQ
 have HQ:=Lib.hid hQ
 have HU:=Lib.hid hu
 clear hQ hu
 simp only [List.size_toArray,List.length_cons,List.length_nil,Nat.reduceAdd,Nat.reduceSub,Array.replicate_succ,Array.replicate_zero,List.push_toArray,List.append_toArray,List.nil_append,List.cons_append,List.setIfInBounds_toArray,List.set_cons_zero,List.set_cons_succ]
 have hta:∀ W:World,(Instr.typeAssert (Value.iface 232 (.agg #[.int .i64 a,.int .i64 er])) 20 232 true).run Tryz.prog W=.ok (.tuple #[.agg #[.int .i64 a,.int .i64 er],.bool true]) W:=fun W=>by
  simp [Instr.typeAssert,go_sem,Tryz.underlying232]
 have z0:=frozen_rowV' h0 0
 have z1:=frozen_rowV' h1 0
 have y0:=cell_rowV h0 (j:=0) rfl
 have y1:=cell_rowV h1 (j:=0) rfl
 have l0:=h0.lt
 have l1:=h1.lt
 have HH:=Lib.hid (And.intro h0 h1)
 clear h0 h1
 go_wp2_with fail
 go_region
 all_goals
  go_wp2_with fail
 all_goals
  obtain⟨h0,h1⟩:=HH.out
  have b3:Below ((w.setCell ⟨r0,0,none⟩ (.int .i64 a)).setCell ⟨r1,0,none⟩ (.int .i64 er)).heap.size ((w.setCell ⟨r0,0,none⟩ (.int .i64 a)).setCell ⟨r1,0,none⟩ (.int .i64 er)) (((w.setCell ⟨r0,0,none⟩ (.int .i64 a)).setCell ⟨r1,0,none⟩ (.int .i64 er)).alloc (.cells #[.int .i64 a,.int .i64 er] 232)).drew:=bdrew (balloc (Below.refl _ _) _) 1
  have q0:rowV ((w.setCell ⟨r0,0,none⟩ (.int .i64 a)).setCell ⟨r1,0,none⟩ (.int .i64 er)) r0 3 #[.int .i64 a]:=(h0.set 0 _).setFar (p:=⟨r1,0,none⟩) h01 _
  have q1:rowV ((w.setCell ⟨r0,0,none⟩ (.int .i64 a)).setCell ⟨r1,0,none⟩ (.int .i64 er)) r1 31 #[.int .i64 er]:=(h1.setFar (p:=⟨r0,0,none⟩) h01.symm _).set 0 _
  have e0:=cell_rowV (q0.below b3 q0.lt) (j:=0) rfl
  have e1:=cell_rowV (q1.below b3 q1.lt) (j:=0) rfl
  have bb:Below B w (((w.setCell ⟨r0,0,none⟩ (.int .i64 a)).setCell ⟨r1,0,none⟩ (.int .i64 er)).alloc (.cells #[.int .i64 a,.int .i64 er] 232)).drew:=
   ((Below.setG hB0 _).trans (Below.setG hB1 _)).trans (b3.mono (Nat.le_trans hB0 (Nat.le_of_lt q0.lt)))
  obtain⟨W,hW⟩:∃ W,W=(((w.setCell ⟨r0,0,none⟩ (.int .i64 a)).setCell ⟨r1,0,none⟩ (.int .i64 er)).alloc (.cells #[.int .i64 a,.int .i64 er] 232)).drew:=⟨_,rfl⟩
  rw [←hW] at e0 e1 bb ⊢
  have hQ:=HQ.out
  have hu:=HU.out
  rw [←hQ]
  clear hW b3 q0 q1 HQ HU HH h0 h1 z0 z1 y0 y1 hta hQ
  cases c₀
  simp_all [bodyPostS,results,Tryz.results105]
def parE(c:List Ins):Nat × Int:=if 1024 < c.length then (0,6) else match parse c with
 | .bad q=>(q,15)
 | .ok _ _=>(0,0)
theorem pboxes(w:World):∃ w2,w2=(w.alloc (.cells #[.int .i64 0] 3)).alloc (.cells #[.int .i64 0] 31)∧Below w.heap.size w w2∧rowV w2 w.heap.size 3 #[.int .i64 0]∧rowV w2 (w.heap.size+1) 31 #[.int .i64 0]∧w2.heap.size=w.heap.size+1+1:=by
 have r1:=rowV.new w 3 #[.int .i64 0]
 have r2:=rowV.new (w.alloc (.cells #[.int .i64 0] 3)) 31 #[.int .i64 0]
 have k1:=balloc (Below.refl _ (w.alloc (.cells #[.int .i64 0] 3))) (.cells #[.int .i64 0] 31)
 have e1:(w.alloc (.cells #[.int .i64 0] 3)).heap.size=w.heap.size+1:=by simp
 rw [e1] at r2
 exact⟨_,rfl,balloc (balloc (Below.refl _ _) _) _,r1.below k1 r1.lt,r2,by simp⟩
theorem parseW_any(A:Option Addr)(n cc:Nat)(c:List Ins)(w:World)(hc:Codes w A n cc c)(hn2:n≤1000000000) :
  Calls Tryz.prog 72 #[.slice A n cc] w fun e w'=>(∃ A5 n5 c5,e=.returned (.tuple #[.slice A5 n5 c5,.int .i64 ((parE c).1:Int),.int .i64 (parE c).2]))∧Below w.heap.size w w':=by
 obtain⟨w2,hw2,g2,r1,r2,s2⟩:=pboxes w
 have hlen:=hc.1
 have hc2:=hc.below g2
 have Hlen:=Lib.hid hlen
 have Hc2:=Lib.hid hc2
 have Hw2:=Lib.hid hw2
 have HR:=Lib.hid (And.intro r1 (And.intro r2 (And.intro g2 s2)))
 have hmf:∀ (fn:Fn) (first cap:Array Value) (w:World),(Instr.makeFunc fn first cap).run Tryz.prog w=.ok (.func fn first cap) w:=fun _ _ _ _=>rfl
 clear hlen hc2 hw2 r1 r2 g2 s2 hc
 by_cases hn:n≤1024
 ·have HB:=Lib.hid (begin_any A n cc hn w2)
  cases hp:parse c with
  | bad q=>
   have hE:parE c=(q,15):=by unfold parE;rw [if_neg (by have:=Hlen.out;omega),hp]
   have Hp:=Lib.hid hp
   rw [hE]
   clear hE hp
   go_enter_defers Tryz.func72,Tryz.ntmps72
   go_wp2_with fail
   rw [←Hw2.out]
   refine HB.out.mono ?_
   rintro e w3 ⟨g,pb,rfl,hF⟩
   have hwh:=whole_any w2 A n cc c Hc2.out hn g pb w3 _ hF
   rw [Hp.out] at hwh
   have HW:=Lib.hid hwh
   have HF:=Lib.hid hF.base
   clear hwh hF
   go_wp2_with fail
   refine HW.out.mono ?_
   rintro e w4 ⟨rfl,hb4⟩
   obtain⟨r1,r2,g2,s2⟩:=HR.out
   have b4:=HF.out.trans hb4
   have u0:=r1.below b4 r1.lt
   have u1:=r2.below b4 r2.lt
   have HBF:=Lib.hid (g2.trans (b4.mono g2.size))
   clear b4 hb4 r1 r2 g2 s2
   go_wp2_with fail
   refine leaves_cons (f:=105) (args:=#[.pointer (some ⟨w.heap.size,0,none⟩),.pointer (some ⟨w.heap.size+1,0,none⟩)]) (by simp) (by simp [go_sem]) ?_
   refine (rescueF_bad w.heap.size w.heap.size (w.heap.size+1) _ _ q 15 w4 u0 u1 (by omega) (by omega) (by omega)).mono ?_
   rintro e u' w5 ⟨rfl,rfl,k0,k1,hb5⟩
   simp [Leaves,settle,results,Tryz.results72,go_sem,k0,k1]
   exact HBF.out.trans hb5
  | ok t m=>
   have hE:parE c=(0,0):=by unfold parE;rw [if_neg (by have:=Hlen.out;omega),hp]
   have Hp:=Lib.hid hp
   rw [hE]
   clear hE hp
   go_enter_defers Tryz.func72,Tryz.ntmps72
   go_wp2_with fail
   rw [←Hw2.out]
   refine HB.out.mono ?_
   rintro e w3 ⟨g,pb,rfl,hF⟩
   have hwh:=whole_any w2 A n cc c Hc2.out hn g pb w3 _ hF
   rw [Hp.out] at hwh
   have HW:=Lib.hid hwh
   clear hwh hF
   go_wp2_with fail
   refine HW.out.mono ?_
   rintro e w4 ⟨⟨A5,n5,c5,rfl⟩,P',hF4,-⟩
   obtain⟨r1,r2,g2,s2⟩:=HR.out
   have u0:=r1.below hF4.base r1.lt
   have u1:=r2.below hF4.base r2.lt
   have y0:=cell_rowV u0 (j:=0) rfl
   have y1:=cell_rowV u1 (j:=0) rfl
   have z0:=frozen_rowV' u0 0
   have z1:=frozen_rowV' u1 0
   have hsame:(w4.setCell ⟨w.heap.size,0,none⟩ (.int .i64 0)).setCell ⟨w.heap.size+1,0,none⟩ (.int .i64 0)=w4:=by rw [setCell_same u0,setCell_same u1]
   have HSM:=Lib.hid hsame
   have HBF:=Lib.hid (g2.trans (hF4.base.mono g2.size))
   clear hsame hF4 r1 r2 g2 s2 u0 u1
   go_wp2_with fail
   rw [HSM.out]
   refine leaves_cons (f:=105) (args:=#[.pointer (some ⟨w.heap.size,0,none⟩),.pointer (some ⟨w.heap.size+1,0,none⟩)]) (by simp) (by simp [go_sem]) ?_
   refine (rescueF_idle _ _ _).mono ?_
   rintro e u' w'' ⟨rfl,rfl,rfl⟩
   simp [Leaves,settle,results,Tryz.results72,go_sem,y0,y1]
   exact HBF.out
 ·have HB:=Lib.hid (begin_long A n cc (by omega) hn2 w2)
  have hE:parE c=(0,6):=by unfold parE;rw [if_pos (by have:=Hlen.out;omega)]
  rw [hE]
  clear hE
  go_enter_defers Tryz.func72,Tryz.ntmps72
  go_wp2_with fail
  rw [←Hw2.out]
  refine HB.out.mono ?_
  rintro e w4 ⟨rfl,hw4⟩
  obtain rfl:=hw4.symm
  obtain⟨r1,r2,g2,s2⟩:=HR.out
  have HBF:=Lib.hid g2
  have HR2:=Lib.hid (And.intro r1 r2)
  clear r1 r2 g2 s2
  go_wp2_with fail
  refine leaves_cons (f:=105) (args:=#[.pointer (some ⟨w.heap.size,0,none⟩),.pointer (some ⟨w.heap.size+1,0,none⟩)]) (by simp) (by simp [go_sem]) ?_
  refine (rescueF_bad w.heap.size w.heap.size (w.heap.size+1) _ _ 0 6 w2 HR2.out.1 HR2.out.2 (by omega) (by omega) (by omega)).mono ?_
  rintro e u' w5 ⟨rfl,rfl,k0,k1,hb5⟩
  simp [Leaves,settle,results,Tryz.results72,go_sem,k0,k1]
  exact HBF.out.trans hb5
theorem qboxes(w:World):∃ w2,w2=(w.alloc (.cells #[.int .i64 0] 31)).alloc (.cells #[.int .i64 0] 3)∧Below w.heap.size w w2∧rowV w2 w.heap.size 31 #[.int .i64 0]∧rowV w2 (w.heap.size+1) 3 #[.int .i64 0]∧w2.heap.size=w.heap.size+1+1:=by
 have r1:=rowV.new w 31 #[.int .i64 0]
 have r2:=rowV.new (w.alloc (.cells #[.int .i64 0] 31)) 3 #[.int .i64 0]
 have k1:=balloc (Below.refl _ (w.alloc (.cells #[.int .i64 0] 31))) (.cells #[.int .i64 0] 3)
 have e1:(w.alloc (.cells #[.int .i64 0] 31)).heap.size=w.heap.size+1:=by simp
 rw [e1] at r2
 exact⟨_,rfl,balloc (balloc (Below.refl _ _) _) _,r1.below k1 r1.lt,r2,by simp⟩
theorem partnersW_any(A:Option Addr)(n cc:Nat)(c:List Ins)(w:World)(hc:Codes w A n cc c)(hn:n≤1024) :
  Calls Tryz.prog 74 #[.slice A n cc] w fun e w'=>match parse c with
   | .bad q=>e=.returned (.tuple #[.slice none 0 0,.int .i64 15])∧Below w.heap.size w w'
   | .ok t _=>∃ pb P,e=.returned (.tuple #[.slice (some ⟨pb,0,none⟩) n n,.int .i64 0])∧Below w.heap.size w w'∧w.heap.size≤pb∧Row (Value.int .i64) w' pb 3 P∧P.length=n∧PartOk P 0 t:=by
 obtain⟨w2,hw2,g2,r1,r2,s2⟩:=qboxes w
 have hlen:=hc.1
 have hc2:=hc.below g2
 have Hc2:=Lib.hid hc2
 have Hw2:=Lib.hid hw2
 have HR:=Lib.hid (And.intro r1 (And.intro r2 (And.intro g2 s2)))
 have hmf:∀ (fn:Fn) (first cap:Array Value) (w:World),(Instr.makeFunc fn first cap).run Tryz.prog w=.ok (.func fn first cap) w:=fun _ _ _ _=>rfl
 clear hlen hc2 hw2 r1 r2 g2 s2 hc
 have HB:=Lib.hid (begin_any A n cc hn w2)
 cases hp:parse c with
 | bad q=>
  have Hp:=Lib.hid hp
  clear hp
  simp only []
  go_enter_defers Tryz.func74,Tryz.ntmps74
  go_wp2_with fail
  rw [←Hw2.out]
  refine HB.out.mono ?_
  rintro e w3 ⟨g,pb,rfl,hF⟩
  have hwh:=whole_any w2 A n cc c Hc2.out hn g pb w3 _ hF
  rw [Hp.out] at hwh
  have HW:=Lib.hid hwh
  have HF:=Lib.hid hF.base
  clear hwh hF
  go_wp2_with fail
  refine HW.out.mono ?_
  rintro e w4 ⟨rfl,hb4⟩
  obtain⟨r1,r2,g2,s2⟩:=HR.out
  have b4:=HF.out.trans hb4
  have u0:=r1.below b4 r1.lt
  have u1:=r2.below b4 r2.lt
  have HBF:=Lib.hid (g2.trans (b4.mono g2.size))
  clear b4 hb4 r1 r2 g2 s2
  go_wp2_with fail
  refine leaves_cons (f:=105) (args:=#[.pointer (some ⟨w.heap.size+1,0,none⟩),.pointer (some ⟨w.heap.size,0,none⟩)]) (by simp) (by simp [go_sem]) ?_
  refine (rescueF_bad w.heap.size (w.heap.size+1) w.heap.size _ _ q 15 w4 u1 u0 (by omega) (by omega) (by omega)).mono ?_
  rintro e u' w5 ⟨rfl,rfl,k0,k1,hb5⟩
  simp [Leaves,settle,results,Tryz.results74,go_sem,k0,k1]
  exact HBF.out.trans hb5
 | ok t m=>
  have Hp:=Lib.hid hp
  clear hp
  simp only []
  go_enter_defers Tryz.func74,Tryz.ntmps74
  go_wp2_with fail
  rw [←Hw2.out]
  refine HB.out.mono ?_
  rintro e w3 ⟨g,pb,rfl,hF⟩
  have hwh:=whole_any w2 A n cc c Hc2.out hn g pb w3 _ hF
  rw [Hp.out] at hwh
  have HW:=Lib.hid hwh
  clear hwh hF
  go_wp2_with fail
  refine HW.out.mono ?_
  rintro e w4 ⟨⟨A5,n5,c5,rfl⟩,P',hF4,hpo⟩
  obtain⟨r1,r2,g2,s2⟩:=HR.out
  have u0:=r1.below hF4.base r1.lt
  have u1:=r2.below hF4.base r2.lt
  have y0:=cell_rowV u0 (j:=0) rfl
  have z0:=frozen_rowV' u0 0
  obtain⟨e0,e1,e2⟩:=hF4.cells
  have hsame:w4.setCell ⟨w.heap.size,0,none⟩ (.int .i64 0)=w4:=setCell_same u0
  have HSM:=Lib.hid hsame
  have HBF:=Lib.hid (And.intro (g2.trans (hF4.base.mono g2.size)) (And.intro hF4 hpo))
  have hpb:w.heap.size≤pb:=Nat.le_trans g2.size hF4.hp
  clear hsame hF4 hpo r1 r2 g2 s2 u0 u1
  go_wp2_with fail
  rw [HSM.out]
  refine leaves_cons (f:=105) (args:=#[.pointer (some ⟨w.heap.size+1,0,none⟩),.pointer (some ⟨w.heap.size,0,none⟩)]) (by simp) (by simp [go_sem]) ?_
  refine (rescueF_idle _ _ _).mono ?_
  rintro e u' w'' ⟨rfl,rfl,rfl⟩
  simp [Leaves,settle,results,Tryz.results74,go_sem,y0]
  exact⟨HBF.out.1,hpb,P',HBF.out.2.1.prt,HBF.out.2.1.len,HBF.out.2.2⟩
theorem argAt_eq{p:Prg}{k:Nat}(hk:k < p.code.length)(h1:badArg p (gI p.code k)=true)(h2:∀ j,j < k→badArg p (gI p.code j)=false):argAt p=k:=by
 unfold argAt
 rw [List.findIdx_eq hk]
 refine⟨by rw [←gI_get hk];exact h1,fun j hj=>?_⟩
 rw [←gI_get (Nat.lt_trans hj hk)]
 exact h2 j hj
theorem argAt_none{p:Prg}(h2:∀ j,j < p.code.length→badArg p (gI p.code j)=false):¬ argAt p < p.code.length:=fun h=>by
 unfold argAt at h
 rw [List.findIdx_lt_length] at h
 obtain⟨x,hx,hb⟩:=h
 obtain⟨j,hj,rfl⟩:=List.mem_iff_getElem.1 hx
 have:=h2 j hj
 rw [gI_get hj] at this
 rw [this] at hb
 cases hb
def ChkR(w:World)(r:Nat × Int)(e:Ending)(w':World):Prop:=e=.returned (.tuple #[.int .i64 (r.1:Int),.int .i64 r.2])∧Below w.heap.size w w'
theorem checkW_any(A A':Option Addr)(n c n' c':Nat)(L:Int)(p:Prg)(w:World)(hx:Progs w A n c L A' n' c' p) :
  Calls Tryz.prog 36 #[.agg #[.slice A n c,.int .i64 L,.slice A' n' c']] w (ChkR w (chkP p)):=by
 obtain⟨w0,hw0⟩:∃ w0,w0=w.alloc (.cells #[.slice A n c,.int .i64 L,.slice A' n' c'] 25):=⟨_,rfl⟩
 have g0:Below w.heap.size w w0:=by rw [hw0];exact balloc (Below.refl _ _) _
 have r0:rowV w0 w.heap.size 25 #[.slice A n c,.int .i64 L,.slice A' n' c']:=by rw [hw0];exact rowV.new w _ _
 have H1:=Lib.hid (encode_any A A' n c n' c' L p w0 (hx.below g0))
 have HX:=Lib.hid (hx.below g0)
 have HnA:=Lib.hid hx.arrs.1
 have HnC:=Lib.hid hx.code.1
 have HL:=Lib.hid hx.locs
 have HG:=Lib.hid (And.intro r0 g0)
 have Hw0:=Lib.hid hw0
 obtain⟨c0,c1,c2⟩:=three_cellsV r0
 have hE:Hid (chkP p=if formE p≠0 then (0,formE p) else match parse p.code with
  | .bad a=>(a,15)
  | .ok _ _=>if argAt p < p.code.length then (argAt p,2) else (0,0)):=rfl
 clear hx g0 r0 hw0
 go_enter Tryz.func36,Tryz.ntmps36
 go_upto_region 1 with fail
 rw [←Hw0.out]
 go_wp2_with fail
 refine H1.out.mono ?_
 rintro e w1 ⟨A1,n1,q1,rfl,hb1⟩
 have r1:=HG.out.1.below hb1 HG.out.1.lt
 have HX1:=Lib.hid (HX.out.below hb1)
 have HG1:=Lib.hid (And.intro r1 (HG.out.2.trans (hb1.mono HG.out.2.size)))
 obtain⟨c0,c1,c2⟩:=three_cellsV r1
 clear H1 hb1 r1
 by_cases hf:formE p=0
 rotate_left 1
 ·have d1:(formE p != 0)=true:=by simpa using hf
  have hE2:Hid (chkP p=(0,formE p)):=by show _=_;rw [hE.out,if_pos hf]
  clear hf
  go_wp2_with fail
  refine bodyPost_ret (v:=.tuple #[.int .i64 0,.int .i64 (formE p)]) (by simp [results,Tryz.results36,go_sem]) rfl ?_
  rw [hE2.out]
  exact⟨rfl,HG1.out.2⟩
 have d1:(formE p != 0)=false:=by simp [hf]
 obtain⟨f1,f2,f3,f4,f5,f6⟩:=formE_ok hf
 rw [HnA.out] at f1
 rw [HnC.out] at f5
 have hE2:Hid (chkP p=match parse p.code with
  | .bad a=>(a,15)
  | .ok _ _=>if argAt p < p.code.length then (argAt p,2) else (0,0)):=by show _=_;rw [hE.out,if_neg (by simp [hf])]
 have H2:=Lib.hid (parseW_any A' n' c' p.code w1 HX1.out.code (by omega))
 have hpe:Hid (parE p.code=match parse p.code with
  | .bad q=>(q,15)
  | .ok _ _=>(0,0)):=by show _=_;unfold parE;rw [if_neg (by rw [HnC.out];omega)];try rfl
 have HF:=Lib.hid (And.intro f2 f6)
 clear f2 f3 f4 f6
 rw [hf] at d1
 obtain⟨pa,pe,hpp⟩:∃ pa pe,parE p.code=(pa,pe):=⟨_,_,rfl⟩
 rw [hpp] at H2 hpe
 simp only [] at H2
 clear hpp
 go_wp2_with fail
 refine H2.out.mono ?_
 rintro e w2 ⟨⟨A5,n5,c5,rfl⟩,hb2⟩
 have r2:=HG1.out.1.below hb2 HG1.out.1.lt
 have HC2:=Lib.hid (HX1.out.code.below hb2)
 have HG2:=Lib.hid (And.intro r2 (HG1.out.2.trans (hb2.mono HG1.out.2.size)))
 clear H2 hb2 r2 c0 c1 c2 HX1 HG1 HX HG
 cases hp:parse p.code with
 | bad q=>
  rw [hp] at hpe hE2
  simp only [] at hpe hE2
  have h1:=hpe.out
  injection h1 with h1 h2
  subst h1 h2
  clear hpe hp
  go_wp2_with fail
  refine bodyPost_ret (v:=.tuple #[.int .i64 (pa:Int),.int .i64 15]) (by simp [results,Tryz.results36,go_sem]) rfl ?_
  rw [hE2.out]
  exact⟨rfl,HG2.out.2⟩
 | ok t m=>
  rw [hp] at hpe hE2
  simp only [] at hpe hE2
  have h1:=hpe.out
  injection h1 with h1 h2
  subst h1 h2
  clear hpe hp
  obtain⟨c0,c1,c2⟩:=three_cellsV HG2.out.1
  go_wp2_with fail
  go_loopw [9,10,33,40,50] (fun _ _ i _ _ wr=>∃ k:Nat,k≤n'∧i=.int .i64 (k:Int)∧Hid (∀ j,j < k→badArg p (gI p.code j)=false)∧Hid (rowV wr w.heap.size 25 #[.slice A n c,.int .i64 L,.slice A' n' c']∧Below w.heap.size w wr∧Codes wr A' n' c' p.code)) (fun _ _ i _ _ _=>n'-(intOf i).toNat)
  case atStart=>exact⟨0,Nat.zero_le _,rfl,Lib.hid (fun j hj=>absurd hj (Nat.not_lt_zero _)),Lib.hid ⟨HG2.out.1,HG2.out.2,HC2.out⟩⟩
  case round=>
   clear c0 c1 c2 HG2 HC2
   obtain⟨k,hk,rfl,HB,HI⟩:=hrel
   by_cases hlt:k < n'
   ·have d0:decide ((k:Int) < (n':Int))=true:=by simp;omega
    have d0':decide (k < n')=true:=by simp;omega
    obtain⟨cb,off,rfl,hcb,hcell⟩:=HI.out.2.2.get hlt
    have x0:=(hcell k hlt).1
    have x1:=(hcell k hlt).2
    have harg:=HI.out.2.2.arg hlt
    have hlen:=HnC.out
    have hbad:Hid (badArg p (gI p.code k)=((decide ((gI p.code k).op=1∨(gI p.code k).op=2) && decide (p.locs≤(gI p.code k).arg)) || (decide ((gI p.code k).op=3∨(gI p.code k).op=4) && decide ((p.arrs.length:Int)≤(gI p.code k).arg)))):=rfl
    rw [HnA.out,←HL.out] at hbad
    obtain⟨⟨op,ar⟩,hi⟩:∃ y,y=gI p.code k:=⟨_,rfl⟩
    rw [←hi] at x0 x1 harg hbad
    simp only [] at x0 x1 harg hbad
    obtain⟨ha0,ha1,-⟩:=harg
    have ew:IntKind.i64.wrap ar=ar:=by simp [IntKind.wrap,IntKind.bits,IntKind.signed];omega
    have Hi:=Lib.hid hi
    have HE3:Hid (badArg p (gI p.code k)=true→chkP p=(k,2)):=fun hb=>by
     have h1:argAt p=k:=argAt_eq (by rw [HnC.out];exact hlt) hb HB.out
     show _=_
     rw [hE2.out,h1,if_pos (by rw [HnC.out];exact hlt)]
    have hk1:=balloc (Below.refl wr.heap.size wr) (.cells #[.int .i64 op,.int .u32 ar] 44)
    have HN:Hid (rowV (wr.alloc (.cells #[.int .i64 op,.int .u32 ar] 44)) w.heap.size 25 #[.slice A n c,.int .i64 L,.slice (some ⟨cb,off,none⟩) n' c']∧Below w.heap.size w (wr.alloc (.cells #[.int .i64 op,.int .u32 ar] 44))∧Codes (wr.alloc (.cells #[.int .i64 op,.int .u32 ar] 44)) (some ⟨cb,off,none⟩) n' c' p.code):=
     ⟨HI.out.1.below hk1 HI.out.1.lt,balloc HI.out.2.1 _,HI.out.2.2.below hk1⟩
    obtain⟨y0,y1,y2⟩:=three_cellsV HN.out.1
    clear hk1 hcell hi hlen hcb
    have hcs:op=1∨op=2∨op=3∨op=4∨(op≠1∧op≠2∧op≠3∧op≠4):=by omega
    rcases hcs with rfl | rfl | rfl | rfl | ⟨n1,n2,n3,n4⟩
    ·by_cases hb:L≤ar
     ·have db:decide (L≤ar)=true:=decide_eq_true hb
      have hbt:badArg p (gI p.code k)=true:=by rw [←Hi.out,hbad.out];simp [hb]
      have hEq:=Lib.hid (HE3.out hbt)
      clear hbt hbad HE3 hb
      go_wp2_with fail
      refine bodyPost_ret (v:=.tuple #[.int .i64 (k:Int),.int .i64 2]) (by simp [results,Tryz.results36,go_sem]) rfl ?_
      rw [hEq.out]
      exact⟨rfl,HN.out.2.1⟩
     ·have db:decide (L≤ar)=false:=decide_eq_false hb
      have hbf:badArg p (gI p.code k)=false:=by rw [←Hi.out,hbad.out];simp;omega
      have HBn:Hid (∀ j,j < k+1→badArg p (gI p.code j)=false):=fun j hj=>by
       rcases Nat.lt_succ_iff_lt_or_eq.1 hj with h | rfl
       ·exact HB.out j h
       ·exact hbf
      clear hbf hbad HE3 hb
      go_wp2_with fail
      go_roundw
      case rel=>exact⟨k+1,by omega,by go_num,HBn,HN⟩
      case measure=>(simp [intOf]) <;> omega
    ·by_cases hb:L≤ar
     ·have db:decide (L≤ar)=true:=decide_eq_true hb
      have hbt:badArg p (gI p.code k)=true:=by rw [←Hi.out,hbad.out];simp [hb]
      have hEq:=Lib.hid (HE3.out hbt)
      clear hbt hbad HE3 hb
      go_wp2_with fail
      refine bodyPost_ret (v:=.tuple #[.int .i64 (k:Int),.int .i64 2]) (by simp [results,Tryz.results36,go_sem]) rfl ?_
      rw [hEq.out]
      exact⟨rfl,HN.out.2.1⟩
     ·have db:decide (L≤ar)=false:=decide_eq_false hb
      have hbf:badArg p (gI p.code k)=false:=by rw [←Hi.out,hbad.out];simp;omega
      have HBn:Hid (∀ j,j < k+1→badArg p (gI p.code j)=false):=fun j hj=>by
       rcases Nat.lt_succ_iff_lt_or_eq.1 hj with h | rfl
       ·exact HB.out j h
       ·exact hbf
      clear hbf hbad HE3 hb
      go_wp2_with fail
      go_roundw
      case rel=>exact⟨k+1,by omega,by go_num,HBn,HN⟩
      case measure=>(simp [intOf]) <;> omega
    ·by_cases hb:(n:Int)≤ar
     ·have db:decide ((n:Int)≤ar)=true:=decide_eq_true hb
      have hbt:badArg p (gI p.code k)=true:=by rw [←Hi.out,hbad.out];simp [hb]
      have hEq:=Lib.hid (HE3.out hbt)
      clear hbt hbad HE3 hb
      go_wp2_with fail
      refine bodyPost_ret (v:=.tuple #[.int .i64 (k:Int),.int .i64 2]) (by simp [results,Tryz.results36,go_sem]) rfl ?_
      rw [hEq.out]
      exact⟨rfl,HN.out.2.1⟩
     ·have db:decide ((n:Int)≤ar)=false:=decide_eq_false hb
      have hbf:badArg p (gI p.code k)=false:=by rw [←Hi.out,hbad.out];simp;omega
      have HBn:Hid (∀ j,j < k+1→badArg p (gI p.code j)=false):=fun j hj=>by
       rcases Nat.lt_succ_iff_lt_or_eq.1 hj with h | rfl
       ·exact HB.out j h
       ·exact hbf
      clear hbf hbad HE3 hb
      go_wp2_with fail
      go_roundw
      case rel=>exact⟨k+1,by omega,by go_num,HBn,HN⟩
      case measure=>(simp [intOf]) <;> omega
    ·by_cases hb:(n:Int)≤ar
     ·have db:decide ((n:Int)≤ar)=true:=decide_eq_true hb
      have hbt:badArg p (gI p.code k)=true:=by rw [←Hi.out,hbad.out];simp [hb]
      have hEq:=Lib.hid (HE3.out hbt)
      clear hbt hbad HE3 hb
      go_wp2_with fail
      refine bodyPost_ret (v:=.tuple #[.int .i64 (k:Int),.int .i64 2]) (by simp [results,Tryz.results36,go_sem]) rfl ?_
      rw [hEq.out]
      exact⟨rfl,HN.out.2.1⟩
     ·have db:decide ((n:Int)≤ar)=false:=decide_eq_false hb
      have hbf:badArg p (gI p.code k)=false:=by rw [←Hi.out,hbad.out];simp;omega
      have HBn:Hid (∀ j,j < k+1→badArg p (gI p.code j)=false):=fun j hj=>by
       rcases Nat.lt_succ_iff_lt_or_eq.1 hj with h | rfl
       ·exact HB.out j h
       ·exact hbf
      clear hbf hbad HE3 hb
      go_wp2_with fail
      go_roundw
      case rel=>exact⟨k+1,by omega,by go_num,HBn,HN⟩
      case measure=>(simp [intOf]) <;> omega
    ·have q1:(op==1)=false:=by simpa using n1
     have q2:(op==2)=false:=by simpa using n2
     have q3:(op==3)=false:=by simpa using n3
     have q4:(op==4)=false:=by simpa using n4
     have hbf:badArg p (gI p.code k)=false:=by rw [←Hi.out,hbad.out];simp [n1,n2,n3,n4]
     have HBn:Hid (∀ j,j < k+1→badArg p (gI p.code j)=false):=fun j hj=>by
      rcases Nat.lt_succ_iff_lt_or_eq.1 hj with h | rfl
      ·exact HB.out j h
      ·exact hbf
     clear hbf hbad HE3 n1 n2 n3 n4
     go_wp2_with fail
     go_roundw
     case rel=>exact⟨k+1,by omega,by go_num,HBn,HN⟩
     case measure=>(simp [intOf]) <;> omega
   ·obtain rfl:k=n':=by omega
    have d0:decide ((k:Int) < (k:Int))=false:=by simp
    have hEq:Hid (chkP p=(0,0)):=by show _=_;rw [hE2.out,if_neg (argAt_none (by rw [HnC.out];exact HB.out))]
    go_wp2_with fail
    refine bodyPost_ret (v:=.tuple #[.int .i64 0,.int .i64 0]) (by simp [results,Tryz.results36,go_sem]) rfl ?_
    rw [hEq.out]
    exact⟨rfl,HI.out.2.1⟩
end Go.Proofs.YtpaplehcafeeaaaGreatDoor
