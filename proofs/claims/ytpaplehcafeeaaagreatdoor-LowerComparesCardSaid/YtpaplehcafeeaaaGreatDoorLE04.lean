/- Ka Ia Ib Ic. -/
import Derived.Test.YtpaplehcafeeaaaGreatDoorProg
import Derived.Test.YtpaplehcafeeaaaGreatDoorLE00
import Derived.Test.YtpaplehcafeeaaaGreatDoorLE03
import Derived.WalkLawsBesides
import Derived.Laws.Tables
import Derived.Laws.Rows
import Derived.Deep.WholeRow
set_option maxRecDepth 100000
set_option maxHeartbeats 40000000
set_option linter.unusedVariables false
set_option linter.unusedSimpArgs false
namespace Go.Proofs.YtpaplehcafeeaaaGreatDoor
open Go.RowKit Go.Proofs
theorem uB:Tryz.prog.underlying 131=some (.slice 5):=by kernel_rfl
theorem u8:Tryz.prog.underlying 5=some (.int .u8):=by kernel_rfl
theorem uS:Tryz.prog.underlying 9=some .string:=by kernel_rfl
def encB(b:UInt8):Value:=.int .u8 (b.toNat:Int)
theorem encB_one(s:UInt8):(encB s).oneCell'=true:=rfl
theorem infoB:(Tryz.prog.info? 5).map (fun i=>(i.zero,i.size,i.bytes))=some (some (encB 0),1,1):=by kernel_rfl
theorem Own.bytesB{w:World}{B:Nat}{e:TypeId}{A:Option Addr}{n c:Nat}{bs:List UInt8}(h:Own encB w B e A n c bs):Bytes w A n c bs:=⟨h.length,h.cap,h.cells 0⟩
theorem Bytes.nil(w:World)(c:Nat):Bytes w none 0 c []:=⟨rfl,Nat.zero_le _,fun h=>absurd h (by omega)⟩
section
variable {α : Type} {enc : α → Value} {P : Program} {w : World} {B : Nat} {e t : TypeId} {A : Option Addr} {n c : Nat} {xs : List α} {zero : α} {bytes : Nat}
 {ops:Array Oper} {rest:List Oper} {o:Oper} {a:Act} {K:Act→World→Prop} {Q:Exit→Act→World→Prop} {E:Prop}
theorem wpList_pushv(hgd:o.guard=none)(s x:Operand)(ho:o.op=.call { callee:=.builtin .append,args:=#[s,x],argTypes:=#[t,t] })
  (ht:P.underlying t=some (.slice e)) (hi:(P.info? e).map (fun i=>(i.zero,i.size,i.bytes))=some (some (enc zero),1,bytes)) (h1:∀ x,(enc x).oneCell'=true) (hz:(enc zero).cells.size=1)
  (hs:a.eval s=.slice A n c) (hown:Own enc w B e A n c xs) (hB:B≤w.heap.size) (y:α) (v:Value) (hv:enc y=v)
  (hx:a.eval x=.slice (some ⟨w.heap.size,0,none⟩) 1 1) (hl:n+1≤maxLen) (hby:(n+1) * bytes≤140737488355328)
  (h:∀ A2 c2 w',Own enc w' B e A2 (n+1) c2 (xs++[y])→Below B w w'→wpList P ops Q rest (a.put o.dst (.slice A2 (n+1) c2)) w'):wpList P ops Q (o :: rest) a (w.alloc (.cells #[v] e)):=by
 subst hv
 exact wpList_push hgd s x ho ht hi h1 hz hs hown hB y hx hl hby h
end
theorem balloc{w w1:World}(h:Below w.heap.size w w1)(o:Obj):Below w.heap.size w (w1.alloc o):=h.alloc h.size o
structure Ins where
 op:Int
 arg:Int
deriving DecidableEq
structure Arr where
 word:Bool
 size:Int
deriving DecidableEq
def Cells2(w:World)(A:Option Addr)(n:Nat)(f g:Nat→Value):Prop:=
 0 < n→∃ b off,A=some ⟨b,off,none⟩∧b < w.heap.size∧∀ i,i < n→w.cell? ⟨b,off+i * 2,none⟩=some (f i)∧w.cell? ⟨b,off+i * 2+1,none⟩=some (g i)
def gI(l:List Ins)(k:Nat):Ins:=l.getD k ⟨0,0⟩
def gA(l:List Arr)(k:Nat):Arr:=l.getD k ⟨false,0⟩
def Codes(w:World)(A:Option Addr)(n c:Nat)(l:List Ins):Prop:=l.length=n∧n≤c∧(∀ x∈l,0≤x.arg∧x.arg < 4294967296∧(Lit.int .i64 x.op).wf=true)∧Cells2 w A n (fun i=>.int .i64 (gI l i).op) (fun i=>.int .u32 (gI l i).arg)
def Arrs(w:World)(A:Option Addr)(n c:Nat)(l:List Arr):Prop:=l.length=n∧n≤c∧(∀ x∈l,(Lit.int .i64 x.size).wf=true)∧Cells2 w A n (fun i=>.bool (gA l i).word) (fun i=>.int .i64 (gA l i).size)
section
variable {w w' : World} {A : Option Addr} {n c : Nat} {f g : Nat → Value}
theorem Cells2.below(h:Cells2 w A n f g)(hb:Below w.heap.size w w'):Cells2 w' A n f g:=fun hn=>by
 obtain⟨b,off,rfl,hlt,hc⟩:=h hn
 exact⟨b,off,rfl,Nat.lt_of_lt_of_le hlt hb.size,fun i hi=>⟨(hb.cell (p:=⟨b,off+i * 2,none⟩) hlt).trans (hc i hi).1,(hb.cell (p:=⟨b,off+i * 2+1,none⟩) hlt).trans (hc i hi).2⟩⟩
theorem Codes.below{l:List Ins}(h:Codes w A n c l)(hb:Below w.heap.size w w'):Codes w' A n c l:=⟨h.1,h.2.1,h.2.2.1,h.2.2.2.below hb⟩
theorem Arrs.below{l:List Arr}(h:Arrs w A n c l)(hb:Below w.heap.size w w'):Arrs w' A n c l:=⟨h.1,h.2.1,h.2.2.1,h.2.2.2.below hb⟩
theorem Codes.drewN{l:List Ins}(h:Codes w A n c l)(q:Nat):Codes (w.drewN q) A n c l:=h
theorem Arrs.drewN{l:List Arr}(h:Arrs w A n c l)(q:Nat):Arrs (w.drewN q) A n c l:=h
theorem Codes.get{l:List Ins}(h:Codes w A n c l){k:Nat}(hk:k < n):∃ b off,A=some ⟨b,off,none⟩∧b < w.heap.size∧∀ i,i < n→w.cell? ⟨b,off+i * 2,none⟩=some (.int .i64 (gI l i).op)∧w.cell? ⟨b,off+i * 2+1,none⟩=some (.int .u32 (gI l i).arg):=h.2.2.2 (by omega)
theorem Arrs.get{l:List Arr}(h:Arrs w A n c l){k:Nat}(hk:k < n):∃ b off,A=some ⟨b,off,none⟩∧b < w.heap.size∧∀ i,i < n→w.cell? ⟨b,off+i * 2,none⟩=some (.bool (gA l i).word)∧w.cell? ⟨b,off+i * 2+1,none⟩=some (.int .i64 (gA l i).size):=h.2.2.2 (by omega)
theorem gI_mem{l:List Ins}{k:Nat}(hk:k < l.length):gI l k∈l:=by unfold gI;rw [List.getD_eq_getElem?_getD,List.getElem?_eq_getElem hk];exact List.getElem_mem hk
theorem gA_mem{l:List Arr}{k:Nat}(hk:k < l.length):gA l k∈l:=by unfold gA;rw [List.getD_eq_getElem?_getD,List.getElem?_eq_getElem hk];exact List.getElem_mem hk
theorem Codes.arg{l:List Ins}(h:Codes w A n c l){k:Nat}(hk:k < n):0≤(gI l k).arg∧(gI l k).arg < 4294967296∧(Lit.int .i64 (gI l k).op).wf=true:=h.2.2.1 _ (gI_mem (by rw [h.1];exact hk))
theorem Arrs.size{l:List Arr}(h:Arrs w A n c l){k:Nat}(hk:k < n):(Lit.int .i64 (gA l k).size).wf=true:=h.2.2.1 _ (gA_mem (by rw [h.1];exact hk))
end
theorem bounds_i64{a:Int}(h:(Lit.int .i64 a).wf=true):-9223372036854775808≤a∧a≤9223372036854775807:=by
 simp [Lit.wf,IntKind.min,IntKind.max,IntKind.bits,IntKind.signed] at h
 omega
structure Opn where
 name:List UInt8
 pops:List UInt8
 pushes:List UInt8
 limit:Nat
 arg:Bool
def opnV(x:Opn):List Value:=[.string (strB x.name),.string (strB x.pops),.string (strB x.pushes),.int .u64 (x.limit:Int),.bool x.arg]
def opTab:List Opn:=[
 ⟨[112,117,115,104],[],[110],4294967296,true⟩,
 ⟨[108,111,97,100],[],[110],16,true⟩,
 ⟨[115,116,111,114,101],[110],[],16,true⟩,
 ⟨[103,101,116],[110],[110],8,true⟩,
 ⟨[112,117,116],[110,110],[],8,true⟩,
 ⟨[100,117,112],[97],[97,97],1,false⟩,
 ⟨[100,114,111,112],[97],[],1,false⟩,
 ⟨[115,119,97,112],[97,98],[98,97],1,false⟩,
 ⟨[97,100,100],[110,110],[110],1,false⟩,
 ⟨[115,117,98],[110,110],[110],1,false⟩,
 ⟨[109,117,108],[110,110],[110],1,false⟩,
 ⟨[100,105,118],[110,110],[110],1,false⟩,
 ⟨[109,111,100],[110,110],[110],1,false⟩,
 ⟨[97,110,100],[110,110],[110],1,false⟩,
 ⟨[111,114],[110,110],[110],1,false⟩,
 ⟨[120,111,114],[110,110],[110],1,false⟩,
 ⟨[115,104,108],[110,110],[110],1,false⟩,
 ⟨[115,104,114],[110,110],[110],1,false⟩,
 ⟨[109,105,110],[110,110],[110],1,false⟩,
 ⟨[109,97,120],[110,110],[110],1,false⟩,
 ⟨[104,97,115,104],[110,110],[110],1,false⟩,
 ⟨[101,113],[110,110],[116],1,false⟩,
 ⟨[108,101,115,115],[110,110],[116],1,false⟩,
 ⟨[110,111,116],[116],[116],1,false⟩,
 ⟨[98,111,116,104],[116,116],[116],1,false⟩,
 ⟨[101,105,116,104,101,114],[116,116],[116],1,false⟩,
 ⟨[105,110,116],[116],[110],1,false⟩,
 ⟨[105,102],[116],[],1,false⟩,
 ⟨[101,108,115,101],[],[],1,false⟩,
 ⟨[108,111,111,112],[110],[],1,false⟩,
 ⟨[108,101,97,118,101],[116],[],1,false⟩,
 ⟨[101,110,100],[],[],1,false⟩,
 ⟨[105,110,112,117,116],[],[110],1,false⟩,
 ⟨[101,110,100,101,100],[],[116],1,false⟩,
 ⟨[101,109,105,116],[110],[],1,false⟩,
 ⟨[99,111,110,116,101,120,116],[110],[],16,true⟩]
def opsC:Array Value:=(opTab.flatMap opnV).toArray
def opO(k:Nat):Opn:=opTab.getD k ⟨[],[],[],0,false⟩
theorem uOp:Tryz.prog.underlying 175=some (.array 36 118):=Tryz.underlying175
def zeroO:Array Value:=(List.replicate 36 [Value.string (strB []),.string (strB []),.string (strB []),.int .u64 0,.bool false]).flatten.toArray
theorem zO(W:World):(zeroValue 175).run Tryz.prog W=.ok (.agg zeroO) W:=(Go.zero_of_info (n:=180) (by kernel_rfl)).1 W
theorem iO:(Tryz.prog.info? 175).map (·.size)=some opsC.size:=by kernel_rfl
theorem zO_size:zeroO.size=opsC.size:=by decide +kernel
theorem allO:opsC.all (·.oneCell')=true:=by decide +kernel
section
variable {P : Program} {o : Oper} {a : Act} {Q : Exit → Act → World → Prop} {w : World}
theorem wpList_buildc{ops:Array Oper}{rest:List Oper}(hg:o.guard=none)(t:TypeId)(parts:Array (Nat × Operand))(ho:o.op=.build t parts)(cells:Array Value)
  (hf:P.built t (parts.map fun (i,x)=>(i,a.eval x)).toList=some cells) (h:wpList P ops Q rest (a.put o.dst (.agg cells)) w):wpList P ops Q (o :: rest) a w:=by
 refine wpList_build hg t parts ho (by rw [hf];rfl) ?_
 rw [hf]
 exact h
end
theorem calc_any(s:List UInt8)(w:World):Calls Tryz.prog 121 #[.string (strB s)] w fun e w'=>e=.returned (.agg #[.string (strB s),.string ⟨#[110,110]⟩,.string ⟨#[110]⟩,.int .u64 1,.bool false])∧Below w.heap.size w w':=by
 go_enter Tryz.func121,Tryz.ntmps121
 go_wp2_with fail
 refine bodyPost_ret (v:=.agg #[.string (strB s),.string ⟨#[110,110]⟩,.string ⟨#[110]⟩,.int .u64 1,.bool false]) (by simp [results,Tryz.results121,go_sem]) rfl ⟨rfl,?_⟩
 first | exact balloc (Below.refl _ _) _ | (repeat' (first | exact balloc (Below.refl _ _) _ | refine Below.setCell ?_ (Nat.le_refl _) _))
theorem plainO_any(s p q:List UInt8)(w:World):Calls Tryz.prog 122 #[.string (strB s),.string (strB p),.string (strB q)] w fun e w'=>e=.returned (.agg #[.string (strB s),.string (strB p),.string (strB q),.int .u64 1,.bool false])∧Below w.heap.size w w':=by
 go_enter Tryz.func122,Tryz.ntmps122
 go_wp2_with fail
 refine bodyPost_ret (v:=.agg #[.string (strB s),.string (strB p),.string (strB q),.int .u64 1,.bool false]) (by simp [results,Tryz.results122,go_sem]) rfl ⟨rfl,?_⟩
 first | exact balloc (Below.refl _ _) _ | (repeat' (first | exact balloc (Below.refl _ _) _ | refine Below.setCell ?_ (Nat.le_refl _) _))
def rowV(w:World)(g:Nat)(t:TypeId)(cs:Array Value):Prop:=w.heap[g]?=some (.cells cs t (0,0))
theorem rowV.lt{w:World}{g:Nat}{t:TypeId}{cs:Array Value}(h:rowV w g t cs):g < w.heap.size:=by
 rcases Nat.lt_or_ge g w.heap.size with hlt | hge
 ·exact hlt
 ·unfold rowV at h;rw [Array.getElem?_eq_none hge] at h;cases h
theorem rowV.below{w w':World}{g B:Nat}{t:TypeId}{cs:Array Value}(h:rowV w g t cs)(hb:Below B w w')(hg:g < B):rowV w' g t cs:=(hb.block g hg).trans h
theorem rowV.new(w:World)(t:TypeId)(cs:Array Value):rowV (w.alloc (.cells cs t)) w.heap.size t cs:=heap_alloc_new w _
theorem operations_any(w:World):Calls Tryz.prog 94 #[] w fun e w'=>e=.returned (.agg opsC)∧Below w.heap.size w w':=by
 have z1:=zO
 have hb:Below w.heap.size w (w.alloc (.cells zeroO 175)):=balloc (Below.refl _ _) _
 have hr:=rowV.new w 175 zeroO
 go_enter Tryz.func94,Tryz.ntmps94
 go_wp2_with fail
 clear z1
 refine (plainO_any [100,117,112] [97] [97,97] _).mono ?_
 rintro e w1 ⟨rfl,hb1⟩
 have hb:=hb.trans (hb1.mono hb.size)
 have hr:=hr.below hb1 (hr.lt)
 clear hb1
 go_wp2_with fail
 refine (plainO_any [100,114,111,112] [97] [] _).mono ?_
 rintro e w1 ⟨rfl,hb1⟩
 have hb:=hb.trans (hb1.mono hb.size)
 have hr:=hr.below hb1 (hr.lt)
 clear hb1
 go_wp2_with fail
 refine (plainO_any [115,119,97,112] [97,98] [98,97] _).mono ?_
 rintro e w1 ⟨rfl,hb1⟩
 have hb:=hb.trans (hb1.mono hb.size)
 have hr:=hr.below hb1 (hr.lt)
 clear hb1
 go_wp2_with fail
 refine (calc_any [97,100,100] _).mono ?_
 rintro e w1 ⟨rfl,hb1⟩
 have hb:=hb.trans (hb1.mono hb.size)
 have hr:=hr.below hb1 (hr.lt)
 clear hb1
 go_wp2_with fail
 refine (calc_any [115,117,98] _).mono ?_
 rintro e w1 ⟨rfl,hb1⟩
 have hb:=hb.trans (hb1.mono hb.size)
 have hr:=hr.below hb1 (hr.lt)
 clear hb1
 go_wp2_with fail
 refine (calc_any [109,117,108] _).mono ?_
 rintro e w1 ⟨rfl,hb1⟩
 have hb:=hb.trans (hb1.mono hb.size)
 have hr:=hr.below hb1 (hr.lt)
 clear hb1
 go_wp2_with fail
 refine (calc_any [100,105,118] _).mono ?_
 rintro e w1 ⟨rfl,hb1⟩
 have hb:=hb.trans (hb1.mono hb.size)
 have hr:=hr.below hb1 (hr.lt)
 clear hb1
 go_wp2_with fail
 refine (calc_any [109,111,100] _).mono ?_
 rintro e w1 ⟨rfl,hb1⟩
 have hb:=hb.trans (hb1.mono hb.size)
 have hr:=hr.below hb1 (hr.lt)
 clear hb1
 go_wp2_with fail
 refine (calc_any [97,110,100] _).mono ?_
 rintro e w1 ⟨rfl,hb1⟩
 have hb:=hb.trans (hb1.mono hb.size)
 have hr:=hr.below hb1 (hr.lt)
 clear hb1
 go_wp2_with fail
 refine (calc_any [111,114] _).mono ?_
 rintro e w1 ⟨rfl,hb1⟩
 have hb:=hb.trans (hb1.mono hb.size)
 have hr:=hr.below hb1 (hr.lt)
 clear hb1
 go_wp2_with fail
 refine (calc_any [120,111,114] _).mono ?_
 rintro e w1 ⟨rfl,hb1⟩
 have hb:=hb.trans (hb1.mono hb.size)
 have hr:=hr.below hb1 (hr.lt)
 clear hb1
 go_wp2_with fail
 refine (calc_any [115,104,108] _).mono ?_
 rintro e w1 ⟨rfl,hb1⟩
 have hb:=hb.trans (hb1.mono hb.size)
 have hr:=hr.below hb1 (hr.lt)
 clear hb1
 go_wp2_with fail
 refine (calc_any [115,104,114] _).mono ?_
 rintro e w1 ⟨rfl,hb1⟩
 have hb:=hb.trans (hb1.mono hb.size)
 have hr:=hr.below hb1 (hr.lt)
 clear hb1
 go_wp2_with fail
 refine (calc_any [109,105,110] _).mono ?_
 rintro e w1 ⟨rfl,hb1⟩
 have hb:=hb.trans (hb1.mono hb.size)
 have hr:=hr.below hb1 (hr.lt)
 clear hb1
 go_wp2_with fail
 refine (calc_any [109,97,120] _).mono ?_
 rintro e w1 ⟨rfl,hb1⟩
 have hb:=hb.trans (hb1.mono hb.size)
 have hr:=hr.below hb1 (hr.lt)
 clear hb1
 go_wp2_with fail
 refine (calc_any [104,97,115,104] _).mono ?_
 rintro e w1 ⟨rfl,hb1⟩
 have hb:=hb.trans (hb1.mono hb.size)
 have hr:=hr.below hb1 (hr.lt)
 clear hb1
 go_wp2_with fail
 refine (plainO_any [101,113] [110,110] [116] _).mono ?_
 rintro e w1 ⟨rfl,hb1⟩
 have hb:=hb.trans (hb1.mono hb.size)
 have hr:=hr.below hb1 (hr.lt)
 clear hb1
 go_wp2_with fail
 refine (plainO_any [108,101,115,115] [110,110] [116] _).mono ?_
 rintro e w1 ⟨rfl,hb1⟩
 have hb:=hb.trans (hb1.mono hb.size)
 have hr:=hr.below hb1 (hr.lt)
 clear hb1
 go_wp2_with fail
 refine (plainO_any [110,111,116] [116] [116] _).mono ?_
 rintro e w1 ⟨rfl,hb1⟩
 have hb:=hb.trans (hb1.mono hb.size)
 have hr:=hr.below hb1 (hr.lt)
 clear hb1
 go_wp2_with fail
 refine (plainO_any [98,111,116,104] [116,116] [116] _).mono ?_
 rintro e w1 ⟨rfl,hb1⟩
 have hb:=hb.trans (hb1.mono hb.size)
 have hr:=hr.below hb1 (hr.lt)
 clear hb1
 go_wp2_with fail
 refine (plainO_any [101,105,116,104,101,114] [116,116] [116] _).mono ?_
 rintro e w1 ⟨rfl,hb1⟩
 have hb:=hb.trans (hb1.mono hb.size)
 have hr:=hr.below hb1 (hr.lt)
 clear hb1
 go_wp2_with fail
 refine (plainO_any [105,110,116] [116] [110] _).mono ?_
 rintro e w1 ⟨rfl,hb1⟩
 have hb:=hb.trans (hb1.mono hb.size)
 have hr:=hr.below hb1 (hr.lt)
 clear hb1
 go_wp2_with fail
 refine (plainO_any [105,102] [116] [] _).mono ?_
 rintro e w1 ⟨rfl,hb1⟩
 have hb:=hb.trans (hb1.mono hb.size)
 have hr:=hr.below hb1 (hr.lt)
 clear hb1
 go_wp2_with fail
 refine (plainO_any [101,108,115,101] [] [] _).mono ?_
 rintro e w1 ⟨rfl,hb1⟩
 have hb:=hb.trans (hb1.mono hb.size)
 have hr:=hr.below hb1 (hr.lt)
 clear hb1
 go_wp2_with fail
 refine (plainO_any [108,111,111,112] [110] [] _).mono ?_
 rintro e w1 ⟨rfl,hb1⟩
 have hb:=hb.trans (hb1.mono hb.size)
 have hr:=hr.below hb1 (hr.lt)
 clear hb1
 go_wp2_with fail
 refine (plainO_any [108,101,97,118,101] [116] [] _).mono ?_
 rintro e w1 ⟨rfl,hb1⟩
 have hb:=hb.trans (hb1.mono hb.size)
 have hr:=hr.below hb1 (hr.lt)
 clear hb1
 go_wp2_with fail
 refine (plainO_any [101,110,100] [] [] _).mono ?_
 rintro e w1 ⟨rfl,hb1⟩
 have hb:=hb.trans (hb1.mono hb.size)
 have hr:=hr.below hb1 (hr.lt)
 clear hb1
 go_wp2_with fail
 refine (plainO_any [105,110,112,117,116] [] [110] _).mono ?_
 rintro e w1 ⟨rfl,hb1⟩
 have hb:=hb.trans (hb1.mono hb.size)
 have hr:=hr.below hb1 (hr.lt)
 clear hb1
 go_wp2_with fail
 refine (plainO_any [101,110,100,101,100] [] [116] _).mono ?_
 rintro e w1 ⟨rfl,hb1⟩
 have hb:=hb.trans (hb1.mono hb.size)
 have hr:=hr.below hb1 (hr.lt)
 clear hb1
 go_wp2_with fail
 refine (plainO_any [101,109,105,116] [110] [] _).mono ?_
 rintro e w1 ⟨rfl,hb1⟩
 have hb:=hb.trans (hb1.mono hb.size)
 have hr:=hr.below hb1 (hr.lt)
 clear hb1
 have Hr:=Lib.hid hr;clear hr
 go_wp2_with (first | refine wpList_buildc rfl 175 _ rfl opsC (by kernel_rfl) ?_ | refine wpList_store_row rfl 175 (.tmp 0) (.tmp 69) rfl _ _ rfl rfl _ _ Hr.out iO zO_size allO ?_)
 have r6:=setRow_heap w1 w.heap.size _ opsC _ _ Hr.out
 have hb6:Below w.heap.size w (w1.setRow w.heap.size opsC):=⟨hb.1,hb.2,hb.3,by rw [size_setRow];exact hb.4,fun i hi=>(setRow_other w1 _ i _ (by omega)).trans (hb.5 i hi)⟩
 exact bodyPost_ret (v:=.agg opsC) (results_cell_row rfl _ _ _ _ _ _ _ rfl r6 uOp rfl iO) rfl ⟨rfl,hb6⟩
theorem flat_part{α β:Type}(f:α→List β)(m:Nat)(hf:∀ x,(f x).length=m)(d:α):∀ (l:List α) (k:Nat),k < l.length→((l.flatMap f).drop (k * m)).take m=f (l.getD k d)
 | [],k,h=>by simp at h
 | x :: l,0,_=>by
  rw [Nat.zero_mul,List.drop_zero,List.flatMap_cons]
  rw [List.take_append_of_le_length (by rw [hf];exact Nat.le_refl _),List.take_of_length_le (by rw [hf];exact Nat.le_refl _)]
  rfl
 | x :: l,k+1,h=>by
  rw [List.flatMap_cons,show (k+1) * m=m+k * m by rw [Nat.succ_mul,Nat.add_comm],List.drop_append,hf,List.drop_of_length_le (by rw [hf];omega),List.nil_append,show m+k * m-m=k * m by omega,flat_part f m hf d l k (by simpa using h)]
  rfl
theorem opTab_length:opTab.length=36:=by decide +kernel
def aggO(x:Opn):Value:=.agg #[.string (strB x.name),.string (strB x.pops),.string (strB x.pushes),.int .u64 (x.limit:Int),.bool x.arg]
theorem ops_part{k:Nat}(hk:k < 36):opsC.extract (k * 5) (k * 5+5)=#[.string (strB (opO k).name),.string (strB (opO k).pops),.string (strB (opO k).pushes),.int .u64 ((opO k).limit:Int),.bool (opO k).arg]:=by
 have h:=flat_part opnV 5 (fun _=>rfl) ⟨[],[],[],0,false⟩ opTab k (by rw [opTab_length];exact hk)
 apply Array.toList_inj.1
 unfold opsC
 rw [Array.toList_extract]
 simp only [List.extract_eq_take_drop,Nat.add_sub_cancel_left]
 rw [h]
 rfl
theorem size_opn(W:World):(sizeOf 118).run Tryz.prog W=.ok 5 W:=by kernel_rfl
theorem run_index_ops{k:Nat}(hk:k < 36)(W:World):(Instr.index 175 (.agg opsC) (.int .i64 (k:Int))).run Tryz.prog W=.ok (aggO (opO k)) W:=by
 have hs:=size_opn W
 have hp:=ops_part hk
 simp [Instr.index,go_sem,hk,part,hs,aggO]
 exact hp
theorem five_cells{w:World}{g:Nat}{t:TypeId}{fr:Nat × Nat}{a b c d e:Value}(h:w.heap[g]?=some (.cells #[a,b,c,d,e] t fr)) :
  w.cell? ⟨g,0,none⟩=some a∧w.cell? ⟨g,1,none⟩=some b∧w.cell? ⟨g,2,none⟩=some c∧w.cell? ⟨g,3,none⟩=some d∧w.cell? ⟨g,4,none⟩=some e:=by
 refine⟨?_,?_,?_,?_,?_⟩ <;> simp [World.cell?,h]
def opX(op:Int):Opn:=if 0≤op∧op < 36 then opO op.toNat else ⟨[],[],[],0,false⟩
def okX(op:Int):Bool:=decide (0≤op∧op < 36)
theorem known_any(op:Int)(w:World):Calls Tryz.prog 63 #[.int .i64 op] w fun e w'=>e=.returned (.tuple #[aggO (opX op),.bool (okX op)])∧Below w.heap.size w w':=by
 have zs:strB []=⟨#[]⟩:=rfl
 by_cases h1:op < 0
 ·have d1:decide (op < 0)=true:=by simpa using h1
  have hX:Hid (opX op=⟨[],[],[],0,false⟩∧okX op=false):=by refine⟨?_,?_⟩;(unfold opX;rw [if_neg (by omega)]);(unfold okX;exact decide_eq_false (by omega))
  go_enter Tryz.func63,Tryz.ntmps63
  go_wp2_with fail
  rw [hX.out.1,hX.out.2]
  refine bodyPost_ret (v:=.tuple #[.agg #[.string ⟨#[]⟩,.string ⟨#[]⟩,.string ⟨#[]⟩,.int .u64 0,.bool false],.bool false]) (by simp [results,Tryz.results63,go_sem]) rfl ⟨rfl,?_⟩
  exact balloc (Below.refl _ _) _
 ·have d1:decide (op < 0)=false:=by simpa using h1
  by_cases h2:36≤op
  ·have d2:decide (36≤op)=true:=by simpa using h2
   have hX:Hid (opX op=⟨[],[],[],0,false⟩∧okX op=false):=by refine⟨?_,?_⟩;(unfold opX;rw [if_neg (by omega)]);(unfold okX;exact decide_eq_false (by omega))
   go_enter Tryz.func63,Tryz.ntmps63
   go_wp2_with fail
   rw [hX.out.1,hX.out.2]
   refine bodyPost_ret (v:=.tuple #[.agg #[.string ⟨#[]⟩,.string ⟨#[]⟩,.string ⟨#[]⟩,.int .u64 0,.bool false],.bool false]) (by simp [results,Tryz.results63,go_sem]) rfl ⟨rfl,?_⟩
   exact balloc (Below.refl _ _) _
  ·have d2:decide (36≤op)=false:=by simpa using h2
   obtain⟨k,rfl⟩:∃ k:Nat,op=(k:Int):=⟨op.toNat,by omega⟩
   have hX:Hid (opX (k:Int)=opO k∧okX (k:Int)=true):=by refine⟨?_,?_⟩;(unfold opX;rw [if_pos (by omega)];rfl);(unfold okX;exact decide_eq_true (by omega))
   have hix:=run_index_ops (k:=k) (by omega)
   unfold aggO at hix
   obtain⟨x,hx⟩:∃ x,x=opO k:=⟨_,rfl⟩
   rw [←hx] at hix hX
   clear hx h1 h2
   have hb0:Below w.heap.size w (w.alloc (.cells #[.string ⟨#[]⟩,.string ⟨#[]⟩,.string ⟨#[]⟩,.int .u64 0,.bool false] 118)):=balloc (Below.refl _ _) _
   have r0:=rowV.new w 118 #[.string ⟨#[]⟩,.string ⟨#[]⟩,.string ⟨#[]⟩,.int .u64 0,.bool false]
   go_enter Tryz.func63,Tryz.ntmps63
   go_wp2_with fail
   refine (operations_any _).mono ?_
   rintro e w1 ⟨rfl,hb1⟩
   have b1:=hb0.trans (hb1.mono hb0.size)
   have r1:=r0.below hb1 r0.lt
   clear hb0 r0 hb1
   have hi:(Tryz.prog.info? 118).map (·.size)=some (#[Value.string (strB x.name),.string (strB x.pops),.string (strB x.pushes),.int .u64 (x.limit:Int),.bool x.arg]:Array Value).size:=by kernel_rfl
   have hall:(#[Value.string (strB x.name),.string (strB x.pops),.string (strB x.pushes),.int .u64 (x.limit:Int),.bool x.arg]:Array Value).all (·.oneCell')=true:=by simp [Value.oneCell']
   have hold:(#[Value.string ⟨#[]⟩,.string ⟨#[]⟩,.string ⟨#[]⟩,.int .u64 0,.bool false]:Array Value).size=(#[Value.string (strB x.name),.string (strB x.pops),.string (strB x.pushes),.int .u64 (x.limit:Int),.bool x.arg]:Array Value).size:=rfl
   have Hr:=Lib.hid r1
   have Ha:=Lib.hid hall
   have Ho:=Lib.hid hold
   have Hi:=Lib.hid hi
   clear hall hold hi r1
   go_wp2_with (refine wpList_store_row rfl 118 (.tmp 2) (.tmp 13) rfl _ _ rfl rfl _ _ Hr.out Hi.out Ho.out Ha.out ?_)
   have r1:=Hr.out
   have hi:=Hi.out
   have r6:=setRow_heap w1 w.heap.size _ #[.string (strB x.name),.string (strB x.pops),.string (strB x.pushes),.int .u64 (x.limit:Int),.bool x.arg] _ _ r1
   have hb6:Below w.heap.size w (w1.setRow w.heap.size #[.string (strB x.name),.string (strB x.pops),.string (strB x.pushes),.int .u64 (x.limit:Int),.bool x.arg]):=⟨b1.1,b1.2,b1.3,by rw [size_setRow];exact b1.4,fun i hi=>(setRow_other w1 _ i _ (by omega)).trans (b1.5 i hi)⟩
   rw [hX.out.1,hX.out.2]
   unfold aggO
   refine bodyPost_ret (v:=.tuple #[.agg #[.string (strB x.name),.string (strB x.pops),.string (strB x.pushes),.int .u64 (x.limit:Int),.bool x.arg],.bool true]) ?_ rfl ⟨rfl,hb6⟩
   obtain⟨W6,hW6⟩:∃ W6,W6=w1.setRow w.heap.size #[.string (strB x.name),.string (strB x.pops),.string (strB x.pushes),.int .u64 (x.limit:Int),.bool x.arg]:=⟨_,rfl⟩
   rw [←hW6] at r6 ⊢
   obtain⟨c0,c1,c2,c3,c4⟩:=five_cells r6
   clear hW6 r6 hb6 r1 b1
   simp [results,Tryz.results63,go_sem,c0,c1,c2,c3,c4]
def chkE(i:Ins):Int:=if okX i.op=false then 1 else if ((opX i.op).limit:Int)≤i.arg then 2 else 0
theorem check_any(i:Ins)(w:World)(h0:0≤i.arg)(h1:i.arg < 4294967296):Calls Tryz.prog 134 #[.agg #[.int .i64 i.op,.int .u32 i.arg]] w fun e w'=>e=.returned (.int .i64 (chkE i))∧Below w.heap.size w w':=by
 obtain⟨op,arg⟩:=i
 dsimp only at h0 h1 ⊢
 have hb0:Below w.heap.size w (w.alloc (.cells #[.int .i64 op,.int .u32 arg] 44)):=balloc (Below.refl _ _) _
 have H:=Lib.hid (known_any op (w.alloc (.cells #[.int .i64 op,.int .u32 arg] 44)))
 have hE:Hid (chkE ⟨op,arg⟩=if okX op=false then 1 else if ((opX op).limit:Int)≤arg then 2 else 0):=rfl
 have c1:(w.alloc (.cells #[.int .i64 op,.int .u32 arg] 44)).cell? ⟨w.heap.size,1,none⟩=some (.int .u32 arg):=by simp
 have hlt:w.heap.size < (w.alloc (.cells #[.int .i64 op,.int .u32 arg] 44)).heap.size:=by simp
 obtain⟨w0,hw0⟩:∃ w0,w0=w.alloc (.cells #[.int .i64 op,.int .u32 arg] 44):=⟨_,rfl⟩
 obtain⟨x,hx⟩:∃ x,x=opX op:=⟨_,rfl⟩
 rw [←hx] at H hE
 unfold aggO at H
 clear hx
 have hw:IntKind.u64.wrap arg=arg:=by simp [IntKind.wrap,IntKind.bits,IntKind.signed];omega
 cases hok:okX op with
 | false=>
  rw [hok] at H hE
  rw [if_pos rfl] at hE
  rw [hE.out]
  rw [←hw0] at H hb0 c1 hlt
  go_enter Tryz.func134,Tryz.ntmps134
  go_wp2_with fail
  rw [←hw0]
  refine H.out.mono ?_
  rintro e w1 ⟨rfl,hb1⟩
  have b1:=hb0.trans (hb1.mono hb0.size)
  clear H hw0
  go_wp2_with fail
  go_ret
  exact⟨rfl,balloc b1 _⟩
 | true=>
  rw [hok] at H hE
  rw [if_neg (by simp)] at hE
  rw [←hw0] at H hb0 c1 hlt
  by_cases hl:(x.limit:Int)≤arg
  ·have d1:decide ((x.limit:Int)≤arg)=true:=by simpa using hl
   rw [if_pos hl] at hE
   rw [hE.out]
   go_enter Tryz.func134,Tryz.ntmps134
   go_wp2_with fail
   rw [←hw0]
   refine H.out.mono ?_
   rintro e w1 ⟨rfl,hb1⟩
   have b1:=hb0.trans (hb1.mono hb0.size)
   have c2:=(hb1.cell (p:=⟨w.heap.size,1,none⟩) hlt).trans c1
   have c3:∀ o:Obj,(w1.alloc o).cell? ⟨w.heap.size,1,none⟩=some (.int .u32 arg):=fun o=>(((Below.refl w1.heap.size w1).alloc (Nat.le_refl _) o).cell (p:=⟨w.heap.size,1,none⟩) (Nat.lt_of_lt_of_le hlt hb1.size)).trans c2
   clear H hw0
   go_wp2_with fail
   go_ret
   exact⟨rfl,balloc b1 _⟩
  ·have d1:decide ((x.limit:Int)≤arg)=false:=by simpa using hl
   rw [if_neg hl] at hE
   rw [hE.out]
   go_enter Tryz.func134,Tryz.ntmps134
   go_wp2_with fail
   rw [←hw0]
   refine H.out.mono ?_
   rintro e w1 ⟨rfl,hb1⟩
   have b1:=hb0.trans (hb1.mono hb0.size)
   have c2:=(hb1.cell (p:=⟨w.heap.size,1,none⟩) hlt).trans c1
   have c3:∀ o:Obj,(w1.alloc o).cell? ⟨w.heap.size,1,none⟩=some (.int .u32 arg):=fun o=>(((Below.refl w1.heap.size w1).alloc (Nat.le_refl _) o).cell (p:=⟨w.heap.size,1,none⟩) (Nat.lt_of_lt_of_le hlt hb1.size)).trans c2
   clear H hw0
   go_wp2_with fail
   go_ret
   exact⟨rfl,balloc b1 _⟩
def arrGo:Int→List Arr→Int
 | _,[]=>0
 | left,x :: l=>if x.size < 1∨left < x.size then 2 else arrGo (left-x.size) l
def arrE(l:List Arr):Int:=if 8 < l.length then 6 else arrGo 65536 l
theorem gA_get{l:List Arr}{k:Nat}(hk:k < l.length):gA l k=l[k]:=by simp [gA,List.getD,hk]
theorem drop_gA{l:List Arr}{k:Nat}(hk:k < l.length):l.drop k=gA l k :: l.drop (k+1):=by rw [gA_get hk];exact List.drop_eq_getElem_cons hk
theorem gI_get{l:List Ins}{k:Nat}(hk:k < l.length):gI l k=l[k]:=by simp [gI,List.getD,hk]
theorem drop_gI{l:List Ins}{k:Nat}(hk:k < l.length):l.drop k=gI l k :: l.drop (k+1):=by rw [gI_get hk];exact List.drop_eq_getElem_cons hk
theorem arrays_any(A:Option Addr)(n c:Nat)(l:List Arr)(w:World)(hx:Arrs w A n c l) :
  Calls Tryz.prog 133 #[.slice A n c] w fun e w'=>e=.returned (.int .i64 (arrE l))∧Below w.heap.size w w':=by
 have Hn:=Lib.hid hx.1
 have hE:Hid (arrE l=if 8 < l.length then 6 else arrGo 65536 l):=rfl
 rw [Hn.out] at hE
 by_cases h1:8 < n
 ·have d1:decide ((8:Int) < (n:Int))=true:=by simp;omega
  have d1':decide (8 < n)=true:=by simp;omega
  rw [if_pos h1] at hE
  rw [hE.out]
  go_enter Tryz.func133,Tryz.ntmps133
  go_wp2_with fail
  go_ret
  exact⟨rfl,Below.refl _ _⟩
 ·have d1:decide ((8:Int) < (n:Int))=false:=by simp;omega
  have d1':decide (8 < n)=false:=by simp;omega
  rw [if_neg h1] at hE
  rw [hE.out]
  go_enter Tryz.func133,Tryz.ntmps133
  go_wp2_with fail
  go_loopw [3,11] (fun r i wr=>∃ (k:Nat) (left:Int),k≤n∧0≤left∧left≤65536∧i=.int .i64 (k:Int)∧r=.int .i64 left∧Hid (arrGo left (l.drop k)=arrGo 65536 l)∧Below w.heap.size w wr) (fun _ i _=>n-(intOf i).toNat)
  case atStart=>exact⟨0,65536,Nat.zero_le _,by omega,by omega,rfl,rfl,rfl,Below.refl _ _⟩
  case round=>
   obtain⟨k,left,hk,hl0,hl1,rfl,rfl,HG,hb⟩:=hrel
   by_cases hlt:k < n
   ·have e1:decide ((k:Int) < (n:Int))=true:=by simp;omega
    have e1':decide (k < n)=true:=by simp;omega
    obtain⟨b,off,rfl,hbl,hcell⟩:=(hx.below hb).get hlt
    obtain⟨c1,c2⟩:=hcell k hlt
    have hsz:=bounds_i64 (hx.size hlt)
    have hd:=Lib.hid (drop_gA (l:=l) (k:=k) (by rw [Hn.out];exact hlt))
    clear hcell
    obtain⟨x,hxe⟩:∃ x,x=gA l k:=⟨_,rfl⟩
    rw [←hxe] at c1 c2 hsz hd
    clear hxe
    obtain⟨wd,sz⟩:=x
    dsimp only at c1 c2 hsz
    have hG:Hid (arrGo 65536 l=if sz < 1∨left < sz then 2 else arrGo (left-sz) (l.drop (k+1))):=by show _=_;rw [←HG.out,hd.out];rfl
    by_cases h2:sz < 1
    ·have d2:decide (sz < 1)=true:=by simpa using h2
     rw [if_pos (.inl h2)] at hG
     go_wp2_with fail
     go_ret
     exact⟨ret_int hG.out.symm,balloc hb _⟩
    ·have d2:decide (sz < 1)=false:=by simpa using h2
     by_cases h3:left < sz
     ·have d3:decide (left < sz)=true:=by simpa using h3
      rw [if_pos (.inr h3)] at hG
      go_wp2_with fail
      go_ret
      exact⟨ret_int hG.out.symm,balloc hb _⟩
     ·have d3:decide (left < sz)=false:=by simpa using h3
      rw [if_neg (by omega)] at hG
      go_wp2_with fail
      go_roundw
      case rel=>exact⟨k+1,left-sz,by omega,by omega,by omega,by go_num,by go_num,hG.out.symm,balloc hb _⟩
      case measure=>simp [intOf];omega
   ·have e1:decide ((k:Int) < (n:Int))=false:=by simp;omega
    have e1':decide (k < n)=false:=by simp;omega
    have hG:Hid (arrGo 65536 l=0):=by show _=_;rw [←HG.out,List.drop_of_length_le (by rw [Hn.out];omega)];rfl
    go_wp2_with fail
    go_ret
    exact⟨ret_int hG.out.symm,hb⟩
structure Prg where
 arrs:List Arr
 locs:Int
 code:List Ins
def codeE:List Ins→Int
 | []=>0
 | i :: l=>if chkE i≠0 then chkE i else codeE l
def formE(p:Prg):Int:=if arrE p.arrs≠0 then arrE p.arrs else if p.locs < 0∨16 < p.locs then 2 else if 1024 < p.code.length then 6 else codeE p.code
theorem codeE_step(i:Ins)(l:List Ins):codeE (i :: l)=if chkE i≠0 then chkE i else codeE l:=rfl
structure Progs (w:World) (A:Option Addr) (n c:Nat) (L:Int) (A':Option Addr) (n' c':Nat) (p:Prg):Prop where
 arrs:Arrs w A n c p.arrs
 locs:L=p.locs
 code:Codes w A' n' c' p.code
 wf:(Lit.int .i64 L).wf=true
theorem Progs.below{w w':World}{A A':Option Addr}{n c n' c':Nat}{L:Int}{p:Prg}(h:Progs w A n c L A' n' c' p)(hb:Below w.heap.size w w'):Progs w' A n c L A' n' c' p:=⟨h.arrs.below hb,h.locs,h.code.below hb,h.wf⟩
theorem three_cells{w:World}{g:Nat}{t:TypeId}{fr:Nat × Nat}{a b c:Value}(h:w.heap[g]?=some (.cells #[a,b,c] t fr)) :
  w.cell? ⟨g,0,none⟩=some a∧w.cell? ⟨g,1,none⟩=some b∧w.cell? ⟨g,2,none⟩=some c:=by
 refine⟨?_,?_,?_⟩ <;> simp [World.cell?,h]
theorem form_any(A A':Option Addr)(n c n' c':Nat)(L:Int)(p:Prg)(w:World)(hx:Progs w A n c L A' n' c' p) :
  Calls Tryz.prog 102 #[.agg #[.slice A n c,.int .i64 L,.slice A' n' c']] w fun e w'=>e=.returned (.int .i64 (formE p))∧Below w.heap.size w w':=by
 have hL:=bounds_i64 hx.wf
 have HnA:=Lib.hid hx.arrs.1
 have HnC:=Lib.hid hx.code.1
 have hE:Hid (formE p=if arrE p.arrs≠0 then arrE p.arrs else if p.locs < 0∨16 < p.locs then 2 else if 1024 < p.code.length then 6 else codeE p.code):=rfl
 rw [←hx.locs,HnC.out] at hE
 have g0:Below w.heap.size w (w.alloc (.cells #[.slice A n c,.int .i64 L,.slice A' n' c'] 25)):=balloc (Below.refl _ _) _
 have r0:=rowV.new w 25 #[.slice A n c,.int .i64 L,.slice A' n' c']
 have hx0:=hx.below g0
 obtain⟨w0,hw0⟩:∃ w0,w0=w.alloc (.cells #[.slice A n c,.int .i64 L,.slice A' n' c'] 25):=⟨_,rfl⟩
 rw [←hw0] at g0 r0 hx0
 have H1:=Lib.hid (arrays_any A n c p.arrs w0 hx0.arrs)
 obtain⟨ae,hae⟩:∃ ae,ae=arrE p.arrs:=⟨_,rfl⟩
 rw [←hae] at H1 hE
 clear hae
 go_enter Tryz.func102,Tryz.ntmps102
 go_wp2_with fail
 rw [←hw0]
 clear hw0
 refine H1.out.mono ?_
 rintro e w1 ⟨rfl,hb1⟩
 have b1:=g0.trans (hb1.mono g0.size)
 have r1:=r0.below hb1 r0.lt
 have hx1:=hx0.below hb1
 clear H1 hx0 r0 g0 hb1
 by_cases h1:ae=0
 ·have d1:(ae != 0)=false:=by simp [h1]
  rw [if_neg (by omega)] at hE
  obtain⟨c0,c1,c2⟩:=three_cells r1
  by_cases h2:L < 0
  ·have d2:decide (L < 0)=true:=by simpa using h2
   rw [if_pos (.inl h2)] at hE
   go_wp2_with fail
   go_ret
   exact⟨ret_int hE.out.symm,b1⟩
  ·have d2:decide (L < 0)=false:=by simpa using h2
   by_cases h3:16 < L
   ·have d3:decide (16 < L)=true:=by simpa using h3
    rw [if_pos (.inr h3)] at hE
    go_wp2_with fail
    go_ret
    exact⟨ret_int hE.out.symm,b1⟩
   ·have d3:decide (16 < L)=false:=by simpa using h3
    rw [if_neg (by omega)] at hE
    by_cases h4:1024 < n'
    ·have d4:decide ((1024:Int) < (n':Int))=true:=by simp;omega
     have d4':decide (1024 < n')=true:=by simp;omega
     rw [if_pos h4] at hE
     go_wp2_with fail
     go_ret
     exact⟨ret_int hE.out.symm,b1⟩
    ·have d4:decide ((1024:Int) < (n':Int))=false:=by simp;omega
     have d4':decide (1024 < n')=false:=by simp;omega
     rw [if_neg h4] at hE
     go_wp2_with fail
     have hb0:=Below.refl w1.heap.size w1
     go_loopw [30] (fun i wr=>∃ k:Nat,k≤n'∧i=.int .i64 (k:Int)∧Hid (codeE (p.code.drop k)=codeE p.code)∧Below w1.heap.size w1 wr) (fun i _=>n'-(intOf i).toNat)
     case atStart=>exact⟨0,Nat.zero_le _,rfl,rfl,hb0⟩
     case round=>
      clear hb0
      obtain⟨k,hk,rfl,HG,hb⟩:=hrel
      by_cases hlt:k < n'
      ·have e1:decide ((k:Int) < (n':Int))=true:=by simp;omega
       have e1':decide (k < n')=true:=by simp;omega
       obtain⟨b,off,rfl,hbl,hcell⟩:=(hx1.code.below hb).get hlt
       obtain⟨q1,q2⟩:=hcell k hlt
       obtain⟨a0,a1,a2⟩:=hx1.code.arg hlt
       have hd:=Lib.hid (drop_gI (l:=p.code) (k:=k) (by rw [HnC.out];exact hlt))
       clear hcell
       obtain⟨x,hxe⟩:∃ x,x=gI p.code k:=⟨_,rfl⟩
       rw [←hxe] at q1 q2 a0 a1 a2 hd
       clear hxe
       have H2:=Lib.hid (check_any x (wr.alloc (.cells #[.int .i64 x.op,.int .u32 x.arg] 44)) a0 a1)
       have hG:Hid (codeE p.code=if chkE x≠0 then chkE x else codeE (p.code.drop (k+1))):=by show _=_;rw [←HG.out,hd.out];rfl
       obtain⟨ce,hce⟩:∃ ce,ce=chkE x:=⟨_,rfl⟩
       rw [←hce] at H2 hG
       clear hce hd HG
       have b2:=balloc (hb.mono (Nat.le_refl _)) (.cells #[.int .i64 x.op,.int .u32 x.arg] 44)
       go_wp2_with fail
       refine H2.out.mono ?_
       rintro e w2 ⟨rfl,hb2⟩
       have b3:=b2.trans (hb2.mono b2.size)
       clear H2 hb2 b2
       by_cases h5:ce=0
       ·have d5:(ce != 0)=false:=by simp [h5]
        rw [if_neg (by omega)] at hG
        clear h5
        go_wp2_with fail
        go_roundw
        case rel=>exact⟨k+1,by omega,by go_num,hG.out.symm,b3⟩
        case measure=>simp [intOf];omega
       ·have d5:(ce != 0)=true:=by simp [h5]
        rw [if_pos h5] at hG
        go_wp2_with fail
        go_ret
        exact⟨ret_int (by rw [hE.out,hG.out]),b1.trans (b3.mono b1.size)⟩
      ·have e1:decide ((k:Int) < (n':Int))=false:=by simp;omega
       have e1':decide (k < n')=false:=by simp;omega
       have hG:Hid (codeE p.code=0):=by show _=_;rw [←HG.out,List.drop_of_length_le (by rw [HnC.out];omega)];rfl
       go_wp2_with fail
       go_ret
       exact⟨ret_int (by rw [hE.out,hG.out]),b1.trans (hb.mono b1.size)⟩
 ·have d1:(ae != 0)=true:=by simp [h1]
  rw [if_pos h1] at hE
  go_wp2_with fail
  go_ret
  exact⟨ret_int hE.out.symm,b1⟩
end Go.Proofs.YtpaplehcafeeaaaGreatDoor
