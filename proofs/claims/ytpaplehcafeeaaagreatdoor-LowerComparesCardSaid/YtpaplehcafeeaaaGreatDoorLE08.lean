/- Ta Af Am. -/
import Derived.Test.YtpaplehcafeeaaaGreatDoorLE07
import Derived.WalkSmall
import Derived.Lib.LaidTab
import Derived.Lib.AppendIntMem
set_option maxRecDepth 100000
set_option maxHeartbeats 40000000
set_option linter.unusedVariables false
set_option linter.unusedSimpArgs false
namespace Go.Proofs.YtpaplehcafeeaaaGreatDoor
open Go.RowKit Go.Proofs
def TabI(w:World):Prop:=Lib.TabIs Tryz.prog w "internal/strconv.uint64pow10" .u64 Lib.pow10Tab
theorem TabI.below{w w':World}(h:TabI w)(hb:Below w.heap.size w w'):TabI w':=by
 have hg:∃ g,Tryz.prog.globalNamed "internal/strconv.uint64pow10" = some g:=by
  unfold TabI Lib.TabIs World.var? at h
  cases hq:Tryz.prog.globalNamed "internal/strconv.uint64pow10" with
  | none=>rw [hq] at h;cases h
  | some g=>exact⟨g,rfl⟩
 obtain⟨g,hg⟩:=hg
 refine var?_below hb hg ?_ h
 unfold TabI Lib.TabIs World.var? at h
 rw [hg] at h
 rcases Nat.lt_or_ge g w.heap.size with hlt | hge
 ·exact hlt
 ·rw [Option.bind_some,Array.getElem?_eq_none hge] at h;cases h
def digB(d:Nat):UInt8:=UInt8.ofNat (48+d)
def decS(n:Nat):List UInt8:=Lib.decDigits n
theorem decS_small{n:Nat}(h:n < 10):decS n=[digB n]:=by unfold decS digB;rw [Lib.decDigits,dif_pos h]
theorem decS_big{n:Nat}(h:¬ n < 10):decS n=decS (n / 10)++[digB (n % 10)]:=by unfold decS digB;rw [Lib.decDigits,dif_neg h]
def DecSt(n m:Nat)(s:List UInt8):Prop:=if m=0 then s=decS n else decS m++s=decS n
theorem DecSt.start(n:Nat):DecSt n (n / 10) [digB (n % 10)]:=by
 unfold DecSt
 by_cases h:n < 10
 ·rw [if_pos (by omega),decS_small h,Nat.mod_eq_of_lt h]
 ·rw [if_neg (by omega),←decS_big h]
theorem DecSt.step{n m:Nat}{s:List UInt8}(h:DecSt n m s)(hm:0 < m):DecSt n (m / 10) (digB (m % 10) :: s):=by
 unfold DecSt at h ⊢
 rw [if_neg (by omega)] at h
 by_cases h1:m < 10
 ·rw [if_pos (by omega),←h,decS_small h1,Nat.mod_eq_of_lt h1];rfl
 ·rw [if_neg (by omega),←h,decS_big h1,List.append_assoc];rfl
theorem DecSt.done{n:Nat}{s:List UInt8}(h:DecSt n 0 s):s=decS n:=by
 unfold DecSt at h
 rwa [if_pos rfl] at h
theorem dec_len:∀ (k m:Nat),m < 10 ^ k→(decS m).length≤k+1
 | 0,m,h=>by rw [decS_small (by omega)];simp
 | k+1,m,h=>by
  by_cases h1:m < 10
  ·rw [decS_small h1];simp
  ·rw [decS_big h1,List.length_append]
   have:=dec_len k (m / 10) (by rw [Nat.pow_succ] at h;omega)
   simp;omega
theorem decS_le{n:Nat}(h:n < 10000000000):(decS n).length≤11:=dec_len 10 n h
theorem DecSt.len{n m:Nat}{s:List UInt8}(h:DecSt n m s)(hn:n≤4294967296):s.length≤11:=by
 have hl:=decS_le (n:=n) (by omega)
 unfold DecSt at h
 by_cases h0:m=0
 ·rw [if_pos h0] at h;rw [h];exact hl
 ·rw [if_neg h0] at h;rw [←h,List.length_append] at hl;omega
end Go.Proofs.YtpaplehcafeeaaaGreatDoor
namespace Go.Proofs.YtpaplehcafeeaaaGreatDoor
open Go.RowKit Go.Proofs
def gapB(b:UInt8):Bool:=b==32 || b==9 || b==10 || b==59
abbrev Wd:=List UInt8 × Nat
def wordsF:Nat→List UInt8→Nat→List Wd
 | 0,_,_=>[]
 | _+1,[],_=>[]
 | f+1,b :: t,i=>
  if b=59 then wordsF f ((b :: t).dropWhile (· != 10)) (i+((b :: t).takeWhile (· != 10)).length)
  else if gapB b then wordsF f t (i+1)
  else ((b :: t).takeWhile (fun c=>!gapB c),i) :: wordsF f ((b :: t).dropWhile (fun c=>!gapB c)) (i+((b :: t).takeWhile (fun c=>!gapB c)).length)
def wordsL(src:List UInt8):List Wd:=wordsF (src.length+1) src 0
def hexD(b:UInt8):Nat:=if 48≤b∧b≤57 then b.toNat-48 else if 97≤b∧b≤102 then b.toNat-87 else 99
def digF(base:Nat):List UInt8→Nat→Option Nat
 | [],n=>some n
 | b :: t,n=>if base≤hexD b then none else digF base t (base * n+hexD b)
def numL(s:List UInt8):Option Nat:=
 if 2 < s.length∧s.take 2=[48,120] then
  if 8 < (s.drop 2).length then none else (digF 16 (s.drop 2) 0).bind fun n=>if n < 4294967296 then some n else none
 else if 1 < s.length∧s.head?=some 48 then none
 else if s.length < 1∨10 < s.length then none
 else (digF 10 s 0).bind fun n=>if n < 4294967296 then some n else none
def declL4:List (List UInt8):=[[98,121,116,101,115],[119,111,114,100,115],[108,111,99,97,108],[99,111,110,115,116]]
def findL(s:List UInt8):Option Nat:=(List.range 36).find? fun k=>decide ((opO k).name=s)
def nameChar(b:UInt8):Bool:=(97≤b && b≤122) || (48≤b && b≤57) || b==95
def nameL(s:List UInt8):Bool:=decide (1≤s.length∧s.length≤32) && (match s.head? with | some b=>97≤b && b≤122 | none=>false) && s.all nameChar && !(declL4.contains s) && (findL s).isNone
structure AS where
 arrs:List Arr
 an:List (List UInt8)
 ln:List (List UInt8)
 code:List Ins
 cn:List (List UInt8 × Nat)
def AS.start:AS:=⟨[],[],[],[],[]⟩
def AS.cells(s:AS):Int:=(s.arrs.map (·.size)).sum
def nextW(n:Nat):List Wd→Wd
 | []=>([],n)
 | w :: _=>w
inductive AR where
 | bad (at_:Nat) (e:Int)
 | ok (s:AS) (r:List Wd)
def conOf(s:AS)(x:List UInt8):Option Nat:=(s.cn.find? fun p=>decide (p.1=x)).map (·.2)
def freshE(s:AS)(x:List UInt8):Int:=if nameL x=false then 4 else if (conOf s x).isSome || s.an.contains x || s.ln.contains x then 8 else 0
def valueL(s:AS)(x:List UInt8):Nat × Int:=
 match numL x with
 | some n=>(n,0)
 | none=>if nameL x=false then (0,4) else match conOf s x with | some n=>(n,0) | none=>(0,7)
def arrayL(n:Nat)(wide:Bool)(s:AS)(r:List Wd):AR:=
 let w:=nextW n r
 let v:=nextW n r.tail
 if freshE s w.1≠0 then .bad w.2 (freshE s w.1)
 else if 8≤s.an.length then .bad w.2 6
 else if (valueL s v.1).2≠0 then .bad v.2 (valueL s v.1).2
 else if ((valueL s v.1).1:Int) < 1∨65536 < ((valueL s v.1).1:Int)+s.cells then .bad v.2 2
 else .ok { s with arrs:=s.arrs++[⟨wide,(valueL s v.1).1⟩],an:=s.an++[w.1] } r.tail.tail
def localL(n:Nat)(s:AS)(r:List Wd):AR:=
 let w:=nextW n r
 if freshE s w.1≠0 then .bad w.2 (freshE s w.1)
 else if 16≤s.ln.length then .bad w.2 6
 else .ok { s with ln:=s.ln++[w.1] } r.tail
def constL(n:Nat)(s:AS)(r:List Wd):AR:=
 let w:=nextW n r
 let v:=nextW n r.tail
 if freshE s w.1≠0 then .bad w.2 (freshE s w.1)
 else if (valueL s v.1).2≠0 then .bad v.2 (valueL s v.1).2
 else .ok { s with cn:=s.cn++[(w.1,(valueL s v.1).1)] } r.tail.tail
def indexL(l:List (List UInt8))(x:List UInt8):Nat × Int:=
 if nameL x=false then (0,4) else if l.contains x=false then (0,7) else (l.idxOf x,0)
def instrL(n:Nat)(w:Wd)(s:AS)(r:List Wd):AR:=
 match findL w.1 with
 | none=>.bad w.2 4
 | some op=>
  if 1024≤s.code.length then .bad w.2 6
  else
   let v:=nextW n r
   if op=0 then if (valueL s v.1).2≠0 then .bad v.2 (valueL s v.1).2 else .ok { s with code:=s.code++[⟨op,(valueL s v.1).1⟩] } r.tail
   else if op=35 then if (valueL s v.1).2≠0 then .bad v.2 (valueL s v.1).2 else if 16≤(valueL s v.1).1 then .bad v.2 2 else .ok { s with code:=s.code++[⟨op,(valueL s v.1).1⟩] } r.tail
   else if op=1∨op=2 then if (indexL s.ln v.1).2≠0 then .bad v.2 (indexL s.ln v.1).2 else .ok { s with code:=s.code++[⟨op,(indexL s.ln v.1).1⟩] } r.tail
   else if op=3∨op=4 then if (indexL s.an v.1).2≠0 then .bad v.2 (indexL s.an v.1).2 else .ok { s with code:=s.code++[⟨op,(indexL s.an v.1).1⟩] } r.tail
   else .ok { s with code:=s.code++[⟨op,0⟩] } r
def stepL(n:Nat)(w:Wd)(s:AS)(r:List Wd):AR:=
 if w.1=[98,121,116,101,115] then arrayL n false s r
 else if w.1=[119,111,114,100,115] then arrayL n true s r
 else if w.1=[108,111,99,97,108] then localL n s r
 else if w.1=[99,111,110,115,116] then constL n s r
 else instrL n w s r
def readF(n:Nat):Nat→AS→List Wd→AR
 | 0,s,r=>.ok s r
 | _+1,s,[]=>.ok s []
 | f+1,s,w :: r=>match stepL n w s r with
   | .bad a e=>.bad a e
   | .ok s' r'=>readF n f s' r'
def readL(src:List UInt8):AR:=if 8192 < src.length then .bad 0 5 else readF src.length ((wordsL src).length+1) AS.start (wordsL src)
end Go.Proofs.YtpaplehcafeeaaaGreatDoor
namespace Go.Proofs.YtpaplehcafeeaaaGreatDoor
open Go.RowKit Go.Proofs
theorem strB_size'(x:List UInt8):(strB x).size=x.length:=rfl
def failV(at_ e:Int):Value:=.iface 208 (.agg #[.int .i64 at_,.int .i64 e])
def Fails(w:World)(at_ e:Int)(en:Ending)(w':World):Prop:=en=.panicked [{ v:=failV at_ e,recovered:=false }]∧Below w.heap.size w w'
theorem demand_ok(x:List UInt8)(z e:Int)(w:World):Calls Tryz.prog 159 #[.agg #[.string (strB x),.int .i64 z],.bool true,.int .i64 e] w fun en w'=>en=.returned (.tuple #[])∧Below w.heap.size w w':=by
 go_enter Tryz.func159,Tryz.ntmps159
 go_wp2_with fail
 exact⟨rfl,_,results_none rfl _ _ _,rfl,balloc (Below.refl _ _) _⟩
theorem demand_bad(x:List UInt8)(z e:Int)(w:World):Calls Tryz.prog 159 #[.agg #[.string (strB x),.int .i64 z],.bool false,.int .i64 e] w (Fails w z e):=by
 go_enter Tryz.func159,Tryz.ntmps159
 go_wp2_with fail
 exact⟨rfl,rfl,balloc (Below.refl _ _) _⟩
theorem indexByteS_any(x:List UInt8)(c:UInt8)(w:World):Calls Tryz.prog 151 #[.string (strB x),.int .u8 (c.toNat:Int)] w fun e w'=>e=.returned (.int .i64 (Lib.indexByte x c))∧w'=w:=by
 have H:=Tryz.stringslite_IndexByte (strB x) (c.toNat:Int) w
 rw [show ((c.toNat:Int)).toNat.toUInt8=c by simp] at H
 have H':=Lib.hid H
 clear H
 go_enter Tryz.func151,Tryz.ntmps151
 go_wp2_with fail
 refine H'.out.mono ?_
 rintro e w1 ⟨rfl,hw1⟩
 obtain rfl:w=w1:=hw1.symm
 go_wp2_with fail
 go_ret
 exact⟨rfl,rfl⟩
theorem indexByte_mem:∀ (x:List UInt8) (c:UInt8),decide (Lib.indexByte x c < 0)=!(x.contains c)
 | [],c=>rfl
 | b :: l,c=>by
  have ih:=indexByte_mem l c
  have hge:∀ (x:List UInt8),-1≤Lib.indexByte x c:=fun x=>by
   induction x with
   | nil=>exact Int.le_refl _
   | cons b l ih=>rw [Lib.indexByte];split;omega;split <;> omega
  rw [Lib.indexByte]
  by_cases h:b=c
  ·subst h;simp
  ·rw [if_neg (by simpa using h)]
   have h2:(b :: l).contains c=l.contains c:=by simp [List.contains_cons,Ne.symm h,beq_iff_eq]
   rw [h2,←ih]
   have:=hge l
   split
   ·rename_i h3
    have:Lib.indexByte l c=-1:=by simpa using h3
    rw [this]
   ·rename_i h3
    have h4:Lib.indexByte l c≠-1:=by simpa using h3
    rw [decide_eq_false (by omega),decide_eq_false (by omega)]
def onlyL(x cs:List UInt8):Bool:=x.all fun b=>cs.contains b
theorem run_index_strB(x:List UInt8){k:Nat}(hk:k < x.length)(W:World):(Instr.index 9 (.string (strB x)) (.int .i64 (k:Int))).run Tryz.prog W=.ok (.int .u8 (gb x k)) W:=by
 rw [run_index_string W 9 (strB x) .i64 (k:Int) uS]
 have h2:0≤(k:Int)∧(k:Int) < ((strB x).size:Int):=⟨by omega,by rw [strB_size'];omega⟩
 rw [dif_pos h2]
 have h3:∀ (j:Nat) (hj:j < (strB x).size),(strB x)[j]=x.getD j 0:=fun j hj=>by
  have hj':j < x.length:=hj
  rw [List.getD_eq_getElem?_getD,List.getElem?_eq_getElem hj']
  rfl
 rw [h3]
 rfl
theorem onlyL_false{x cs:List UInt8}{k:Nat}(hk:k < x.length)(h:cs.contains (x.getD k 0)=false):onlyL x cs=false:=by
 unfold onlyL
 rw [List.all_eq_false]
 refine⟨x.getD k 0,?_,by simpa using h⟩
 rw [List.getD_eq_getElem?_getD,List.getElem?_eq_getElem hk]
 exact List.getElem_mem hk
theorem onlyL_true{x cs:List UInt8}(h:∀ k,k < x.length→cs.contains (x.getD k 0)=true):onlyL x cs=true:=by
 unfold onlyL
 rw [List.all_eq_true]
 intro b hb
 obtain⟨k,hk,rfl⟩:=List.getElem_of_mem hb
 have:=h k hk
 rwa [List.getD_eq_getElem?_getD,List.getElem?_eq_getElem hk] at this
theorem only_any(x cs:List UInt8)(w:World)(hx:x.length≤100000):Calls Tryz.prog 222 #[.string (strB x),.string (strB cs)] w fun e w'=>e=.returned (.bool (onlyL x cs))∧w'=w:=by
 have hs:=strB_size' x
 have HI:=Lib.hid (fun k hk W=>run_index_strB x (k:=k) hk W)
 obtain⟨ob,hob⟩:∃ ob,ob=onlyL x cs:=⟨_,rfl⟩
 have HO:=Lib.hid hob
 rw [←hob]
 clear hob
 go_enter Tryz.func222,Tryz.ntmps222
 go_wp2_with fail
 go_loop [8] (fun i=>∃ k:Nat,k≤x.length∧i=.int .i64 (k:Int)∧Hid (∀ j,j < k→cs.contains (x.getD j 0)=true)) (fun i=>x.length-(intOf i).toNat)
 case atStart=>exact⟨0,Nat.zero_le _,rfl,fun j hj=>absurd hj (by omega)⟩
 case round=>
  obtain⟨k,hk,rfl,HK⟩:=hrel
  by_cases hlt:k < x.length
  ·have e1:decide ((k:Int) < (x.length:Int))=true:=by simp;omega
   have e1':decide (k < x.length)=true:=by simp;omega
   have hi:=HI.out k hlt
   have H1:=Lib.hid (indexByteS_any cs (x.getD k 0) w)
   have hm:=indexByte_mem cs (x.getD k 0)
   have HF:=Lib.hid (fun h=>onlyL_false (x:=x) (cs:=cs) hlt h)
   have HT:Hid (cs.contains (x.getD k 0)=true→∀ j,j < k+1→cs.contains (x.getD j 0)=true):=fun h j hj=>by
    rcases Nat.lt_or_ge j k with h1 | h1
    ·exact HK.out j h1
    ·obtain rfl:j=k:=by omega
     exact h
   obtain⟨z,hz⟩:∃ z,z=Lib.indexByte cs (x.getD k 0):=⟨_,rfl⟩
   rw [←hz] at H1 hm
   clear hz HK
   unfold gb at hi
   obtain⟨b,hb⟩:∃ b,b=x.getD k 0:=⟨_,rfl⟩
   rw [←hb] at hi H1 hm HF HT
   clear hb
   cases hc:cs.contains b with
   | true=>
    rw [hc] at hm HT
    have HT':=Lib.hid (HT.out rfl)
    have hm:decide (z < 0)=false:=hm
    clear hc HF HT
    go_wp2_with fail
    refine H1.out.mono ?_
    rintro e w1 ⟨rfl,hw1⟩
    obtain rfl:w=w1:=hw1.symm
    go_wp2_with fail
    go_round
    case rel=>exact⟨k+1,by omega,by go_num,HT'.out⟩
    case measure=>simp [intOf];omega
   | false=>
    rw [hc] at hm HF
    have HF':=Lib.hid (HF.out rfl)
    have hm:decide (z < 0)=true:=hm
    clear hc HF HT
    go_wp2_with fail
    refine H1.out.mono ?_
    rintro e w1 ⟨rfl,hw1⟩
    obtain rfl:w=w1:=hw1.symm
    go_wp2_with fail
    go_ret
    exact⟨ret_bool (by rw [HO.out,HF'.out]),rfl⟩
  ·have e1:decide ((k:Int) < (x.length:Int))=false:=by simp;omega
   have e1':decide (k < x.length)=false:=by simp;omega
   have HT':Hid (onlyL x cs=true):=onlyL_true (fun j hj=>HK.out j (by omega))
   go_wp2_with fail
   go_ret
   exact⟨ret_bool (by rw [HO.out,HT'.out]),rfl⟩
end Go.Proofs.YtpaplehcafeeaaaGreatDoor
namespace Go.Proofs.YtpaplehcafeeaaaGreatDoor
open Go.RowKit Go.Proofs
def gW(l:List Wd)(k:Nat):Wd:=l.getD k ([],0)
def WordsM(B:Nat)(w:World)(A:Option Addr)(n c:Nat)(l:List Wd):Prop:=l.length=n∧n≤c∧(∀ x∈l,x.1.length≤9000∧x.2≤9000) ∧
 (0 < n→∃ b off,A=some ⟨b,off,none⟩∧b < B∧∀ i,i < n→w.cell? ⟨b,off+i * 2,none⟩=some (.string (strB (gW l i).1))∧w.cell? ⟨b,off+i * 2+1,none⟩=some (.int .i64 ((gW l i).2:Int)))
theorem WordsM.below{B:Nat}{w w':World}{A:Option Addr}{n c:Nat}{l:List Wd}(h:WordsM B w A n c l)(hb:Below B w w'):WordsM B w' A n c l:=⟨h.1,h.2.1,h.2.2.1,fun hn=>by
 obtain⟨b,off,rfl,hlt,hc⟩:=h.2.2.2 hn
 exact⟨b,off,rfl,hlt,fun i hi=>⟨(hb.cell (p:=⟨b,off+i * 2,none⟩) hlt).trans (hc i hi).1,(hb.cell (p:=⟨b,off+i * 2+1,none⟩) hlt).trans (hc i hi).2⟩⟩⟩
theorem gW_drop(l:List Wd)(k i:Nat):gW (l.drop k) i=gW l (k+i):=by simp [gW,List.getD,List.getElem?_drop]
theorem WordsM.tail{B:Nat}{w:World}{b off n c:Nat}{l:List Wd}(h:WordsM B w (some ⟨b,off,none⟩) n c l)(hn:0 < n)(A':Option Addr)(hA:1 < n→A'=some ⟨b,off+2,none⟩):WordsM B w A' (n-1) (c-1) l.tail:=by
 obtain⟨h1,h2,h3,h4⟩:=h
 refine⟨by rw [List.length_tail,h1],by omega,fun x hx=>h3 x (List.mem_of_mem_tail hx),fun hm=>?_⟩
 obtain⟨b',off',e,hb,hc⟩:=h4 hn
 injection e with e
 injection e with e1 e2
 subst e1 e2
 refine⟨b,off+2,hA (by omega),hb,fun i hi=>?_⟩
 have:=hc (i+1) (by omega)
 have e:gW l.tail i=gW l (i+1):=by rw [←List.drop_one,gW_drop,Nat.add_comm]
 rw [e]
 rw [show off+2+i * 2=off+(i+1) * 2 by omega]
 exact this
def rdC(A:Option Addr)(k c n:Nat)(v2 v3 v4 v5 v6 v7:Value):Array Value:=#[.slice A k c,.int .i64 (n:Int),v2,v3,v4,v5,v6,v7]
theorem rd_cells{w:World}{g:Nat}{t:TypeId}{A:Option Addr}{k c n:Nat}{v2 v3 v4 v5 v6 v7:Value}(h:rowV w g t (rdC A k c n v2 v3 v4 v5 v6 v7)) :
  w.cell? ⟨g,0,none⟩=some (.slice A k c)∧w.cell? ⟨g,1,none⟩=some (.int .i64 (n:Int))∧w.cell? ⟨g,2,none⟩=some v2∧w.cell? ⟨g,3,none⟩=some v3∧w.cell? ⟨g,4,none⟩=some v4∧w.cell? ⟨g,5,none⟩=some v5∧w.cell? ⟨g,6,none⟩=some v6∧w.cell? ⟨g,7,none⟩=some v7:=by
 unfold rowV rdC at h
 refine⟨?_,?_,?_,?_,?_,?_,?_,?_⟩ <;> simp [World.cell?,h]
theorem frozen_rowV'{w:World}{g:Nat}{t:TypeId}{a:Array Value}(h:rowV w g t a)(j:Nat):w.frozen? ⟨g,j,none⟩=false:=by
 unfold rowV at h
 simp [World.frozen?,h]
theorem rowV.set{w:World}{g:Nat}{t:TypeId}{cs:Array Value}(h:rowV w g t cs)(j:Nat)(v:Value):rowV (w.setCell ⟨g,j,none⟩ v) g t (cs.setIfInBounds j v):=by
 unfold rowV at h ⊢
 simp [World.setCell,Array.getElem?_modify,h]
theorem next_any(B g:Nat)(A:Option Addr)(k c n:Nat)(v2 v3 v4 v5 v6 v7:Value)(ws:List Wd)(w:World)(hr:rowV w g 174 (rdC A k c n v2 v3 v4 v5 v6 v7))(hw:WordsM B w A k c ws)(hk:k≤9000)(hB:B≤g) :
  Calls Tryz.prog 119 #[.pointer (some ⟨g,0,none⟩)] w fun e w'=>∃ A' k' c',e=.returned (.agg #[.string (strB (nextW n ws).1),.int .i64 ((nextW n ws).2:Int)])∧k'=k-1∧rowV w' g 174 (rdC A' k' c' n v2 v3 v4 v5 v6 v7)∧WordsM B w' A' k' c' ws.tail∧w.grownBy w' (some g):=by
 obtain⟨c0,c1,-⟩:=rd_cells hr
 have f0:=frozen_rowV' hr 0
 have hlt:=hr.lt
 have Hr:=Lib.hid hr
 have Hw:=Lib.hid hw
 cases ws with
 | nil=>
  obtain rfl:k=0:=by have:=hw.1;simpa using this.symm
  have hN:nextW n ([]:List Wd)=([],n):=rfl
  rw [hN]
  clear hr hw hN
  go_enter Tryz.func119,Tryz.ntmps119
  go_wp2_with fail
  have r1:=rowV.new w 214 #[.string ⟨#[]⟩,.int .i64 (n:Int)]
  obtain⟨z0,z1⟩:=two_cellsV r1
  have hb:=(Below.refl w.heap.size w).alloc (Nat.le_refl _) (.cells #[.string ⟨#[]⟩,.int .i64 (n:Int)] 214)
  refine bodyPost_ret (v:=.agg #[.string ⟨#[]⟩,.int .i64 (n:Int)]) (by simp [results,Tryz.results119,go_sem,z0,z1]) rfl
   ⟨A,0,c,rfl,rfl,Hr.out.below hb hlt,Hw.out.below (hb.mono (by omega)),World.grownBy_alloc w _ _⟩
 | cons x ws=>
  have hk1:k=ws.length+1:=by have:=hw.1;simpa using this.symm
  have hN:nextW n (x :: ws)=x:=rfl
  rw [hN]
  clear hN
  obtain⟨b,off,rfl,hbl,hcell⟩:=hw.2.2.2 (by omega)
  obtain⟨q1,q2⟩:=hcell 0 (by omega)
  have hx:=hw.2.2.1 x (by simp)
  have hkc:=hw.2.1
  obtain⟨xs,xp⟩:=x
  replace q1:w.cell? ⟨b,off,none⟩=some (.string (strB xs)):=by simpa [gW] using q1
  replace q2:w.cell? ⟨b,off+1,none⟩=some (.int .i64 (xp:Int)):=by simpa [gW] using q2
  have hbw:b < w.heap.size:=World.block_lt_of_cell? w _ q1
  have k0:decide (k=0)=false:=by simp;omega
  have k0':((k:Int)==0)=false:=by simp;omega
  have k1:(1:Int)≤(k:Int):=by omega
  have k2:0 < k:=by omega
  have k3:(k==0)=false:=by simp;omega
  dsimp only
  clear hr hw hcell hk1
  go_enter Tryz.func119,Tryz.ntmps119
  have fin:∀ A':Option Addr,(1 < k→A'=some ⟨b,off+2,none⟩)→∀ W,W=((w.setCell ⟨g,0,none⟩ (.slice A' (k-1) (c-1))).alloc (.cells #[.string (strB xs),.int .i64 (xp:Int)] 214)).alloc (.cells #[.string (strB xs),.int .i64 (xp:Int)] 214) →
    (W.cell? ⟨w.heap.size,0,none⟩=some (.string (strB xs))∧W.cell? ⟨w.heap.size,1,none⟩=some (.int .i64 (xp:Int)))∧rowV W g 174 (rdC A' (k-1) (c-1) n v2 v3 v4 v5 v6 v7)∧WordsM B W A' (k-1) (c-1) ws∧w.grownBy W (some g):=fun A' hA W hW=>by
   have hs:(w.setCell ⟨g,0,none⟩ (.slice A' (k-1) (c-1))).heap.size=w.heap.size:=by simp [World.setCell]
   have hg1:=grownBy.setCell' (World.grownBy.refl w (some g)) (j:=0) (.slice A' (k-1) (c-1))
   have r1:=rowV.new (w.setCell ⟨g,0,none⟩ (.slice A' (k-1) (c-1))) 214 #[.string (strB xs),.int .i64 (xp:Int)]
   rw [hs] at r1
   have rg:rowV (w.setCell ⟨g,0,none⟩ (.slice A' (k-1) (c-1))) g 174 (rdC A' (k-1) (c-1) n v2 v3 v4 v5 v6 v7):=Hr.out.set 0 _
   obtain⟨w1,hw1⟩:∃ w1,w1=w.setCell ⟨g,0,none⟩ (.slice A' (k-1) (c-1)):=⟨_,rfl⟩
   rw [←hw1] at hW hg1 r1 rg hs
   have b2:Below w1.heap.size w1 (w1.alloc (.cells #[.string (strB xs),.int .i64 (xp:Int)] 214)):=balloc (Below.refl _ _) _
   have hg2:=grownBy.alloc' hg1 (.cells #[.string (strB xs),.int .i64 (xp:Int)] 214)
   have rg2:=rg.below b2 rg.lt
   obtain⟨w2,hw2⟩:∃ w2,w2=w1.alloc (.cells #[.string (strB xs),.int .i64 (xp:Int)] 214):=⟨_,rfl⟩
   rw [←hw2] at hW hg2 r1 rg2 b2
   have b3:Below w2.heap.size w2 (w2.alloc (.cells #[.string (strB xs),.int .i64 (xp:Int)] 214)):=balloc (Below.refl _ _) _
   have hg3:=grownBy.alloc' hg2 (.cells #[.string (strB xs),.int .i64 (xp:Int)] 214)
   rw [←hW] at b3 hg3
   have r3:=r1.below b3 r1.lt
   have rg3:=rg2.below b3 rg2.lt
   refine⟨two_cellsV r3,rg3,?_,hg3⟩
   exact (Hw.out.tail k2 A' hA).below ((Below.refl B w).grown hg3 (by omega) (fun k hk=>by injection hk with hk;omega))
  have f1:=fin (some ⟨b,off,none⟩)
  have f2:=fin (some ⟨b,off+2,none⟩) (fun _=>rfl) _ rfl
  have F2:=Lib.hid f2
  have F1:=Lib.hid f1
  clear f1 f2 fin
  go_wp2_with fail
  all_goals first
   | (obtain rfl:c=1:=by assumption
      obtain⟨⟨z0,z1⟩,h2,h3,h4⟩:=F1.out (fun h=>absurd h (by omega)) _ rfl
      refine bodyPost_ret (v:=.agg #[.string (strB xs),.int .i64 (xp:Int)]) ?_ rfl ?_
      ·simp [results,Tryz.results119,go_sem,z0,z1]
      ·exact⟨rfl,_,_,h2,h3,h4⟩)
   | (obtain⟨⟨z0,z1⟩,h2,h3,h4⟩:=F2.out
      refine bodyPost_ret (v:=.agg #[.string (strB xs),.int .i64 (xp:Int)]) ?_ rfl ?_
      ·simp [results,Tryz.results119,go_sem,z0,z1]
      ·exact⟨rfl,_,_,h2,h3,h4⟩)
end Go.Proofs.YtpaplehcafeeaaaGreatDoor
namespace Go.Proofs.YtpaplehcafeeaaaGreatDoor
open Go.RowKit Go.Proofs
def findN(s:List UInt8):Int:=match findL s with | some k=>(k:Int) | none=>0
theorem findL_hit{s:List UInt8}{k:Nat}(hk:k < 36)(h:∀ j,j < k→(opO j).name≠s)(he:(opO k).name=s):findL s=some k:=by
 unfold findL
 rw [List.find?_range_eq_some]
 exact⟨by simpa using he,by simpa using hk,fun j hj=>by simpa using h j hj⟩
theorem findL_miss{s:List UInt8}(h:∀ j,j < 36→(opO j).name≠s):findL s=none:=by
 unfold findL
 rw [List.find?_eq_none]
 intro x hx
 simpa using h x (List.mem_range.1 hx)
theorem find_any(s:List UInt8)(w:World):Calls Tryz.prog 158 #[.string (strB s)] w fun e w'=>e=.returned (.tuple #[.int .i64 (findN s),.bool (findL s).isSome])∧Below w.heap.size w w':=by
 have H1:=Lib.hid (operations_any w)
 have HI:=Lib.hid (fun k hk W=>run_index_ops (k:=k) hk W)
 obtain⟨fn,hfn⟩:∃ fn,fn=findN s:=⟨_,rfl⟩
 obtain⟨fb,hfb⟩:∃ fb,fb=(findL s).isSome:=⟨_,rfl⟩
 have HF:Hid (fn=findN s∧fb=(findL s).isSome):=⟨hfn,hfb⟩
 rw [←hfn,←hfb]
 clear hfn hfb
 go_enter Tryz.func158,Tryz.ntmps158
 go_wp2_with fail
 refine H1.out.mono ?_
 rintro e w1 ⟨rfl,hb1⟩
 clear H1
 go_wp2_with fail
 go_loopw [7] (fun i wr=>∃ k:Nat,k≤36∧i=.int .i64 (k:Int)∧Hid (∀ j,j < k→(opO j).name≠s)∧Below w.heap.size w wr) (fun i _=>36-(intOf i).toNat)
 case atStart=>exact⟨0,by omega,rfl,fun j hj=>absurd hj (by omega),hb1⟩
 case round=>
  clear hb1
  obtain⟨k,hk,rfl,HK,hb⟩:=hrel
  by_cases hlt:k < 36
  ·have e1:decide ((k:Int) < 36)=true:=by simp;omega
   have e1':decide (k < 36)=true:=by simp;omega
   have hix:=HI.out k hlt
   unfold aggO at hix
   have HS:Hid ((opO k).name=s→findL s=some k):=fun h=>findL_hit hlt HK.out h
   have HG:Hid ((opO k).name≠s→∀ j,j < k+1→(opO j).name≠s):=fun h j hj=>by
    rcases Nat.lt_or_ge j k with h1 | h1
    ·exact HK.out j h1
    ·obtain rfl:j=k:=by omega
     exact h
   obtain⟨x,hxe⟩:∃ x,x=opO k:=⟨_,rfl⟩
   rw [←hxe] at hix HS HG
   clear hxe HK
   have hb4:=balloc hb (.cells #[.string (strB x.name),.string (strB x.pops),.string (strB x.pushes),.int .u64 (x.limit:Int),.bool x.arg] 118)
   have hd:=strB_beq x.name s
   by_cases he:x.name=s
   ·rw [decide_eq_true he] at hd
    have HS':=Lib.hid (HS.out he)
    have hr1:Hid (fn=(k:Int)∧fb=true):=by
     refine⟨?_,?_⟩
     ·rw [HF.out.1];unfold findN;rw [HS'.out]
     ·rw [HF.out.2,HS'.out];rfl
    clear HS HG he
    go_wp2_with fail
    go_ret2
    exact⟨by rw [hr1.out.1,hr1.out.2];rfl,hb4⟩
   ·rw [decide_eq_false he] at hd
    have HG':=Lib.hid (HG.out he)
    clear HS HG he
    go_wp2_with fail
    go_roundw
    case rel=>exact⟨k+1,by omega,by go_num,HG'.out,hb4⟩
    case measure=>simp [intOf];omega
  ·have e1:decide ((k:Int) < 36)=false:=by simp;omega
   have e1':decide (k < 36)=false:=by simp;omega
   have hm:=Lib.hid (findL_miss (s:=s) (fun j hj=>HK.out j (by omega)))
   have hr1:Hid (fn=0∧fb=false):=by
    refine⟨?_,?_⟩
    ·rw [HF.out.1];unfold findN;rw [hm.out]
    ·rw [HF.out.2,hm.out];rfl
   go_wp2_with fail
   go_ret2
   exact⟨by rw [hr1.out.1,hr1.out.2];rfl,hb⟩
end Go.Proofs.YtpaplehcafeeaaaGreatDoor
namespace Go.Proofs.YtpaplehcafeeaaaGreatDoor
open Go.RowKit Go.Proofs
theorem dropWhile_shorter{α:Type}(p:α→Bool):∀ l:List α,(l.dropWhile p).length≤l.length
 | []=>Nat.le_refl _
 | a :: l=>by
  rw [List.dropWhile_cons]
  split
  ·have:=dropWhile_shorter p l;simp;omega
  ·exact Nat.le_refl _
theorem wordsF_fuel:∀ (f f':Nat) (s:List UInt8) (i:Nat),s.length < f→s.length < f'→wordsF f s i=wordsF f' s i
 | 0,_,s,i,h,_=>by omega
 | _+1,0,s,i,_,h=>by omega
 | f+1,f'+1,[],i,_,_=>rfl
 | f+1,f'+1,b :: t,i,h,h'=>by
  have hd:∀ p:UInt8→Bool,p b=true→((b :: t).dropWhile p).length≤t.length:=fun p hp=>by
   rw [List.dropWhile_cons_of_pos hp];exact dropWhile_shorter p t
  rw [wordsF,wordsF]
  simp only [List.length_cons] at h h'
  by_cases h1:b=59
  ·rw [if_pos h1,if_pos h1]
   have:=hd (· != 10) (by rw [h1];rfl)
   exact wordsF_fuel f f' _ _ (by omega) (by omega)
  ·rw [if_neg h1,if_neg h1]
   by_cases h2:gapB b=true
   ·rw [if_pos h2,if_pos h2]
    exact wordsF_fuel f f' _ _ (by omega) (by omega)
   ·rw [if_neg h2,if_neg h2]
    have:=hd (fun c=>!gapB c) (by simpa using h2)
    rw [wordsF_fuel f f' _ _ (by omega) (by omega)]
def wordsA(src:List UInt8)(i:Nat):List Wd:=wordsF (src.length-i+1) (src.drop i) i
theorem wordsA_end{src:List UInt8}{i:Nat}(h:src.length≤i):wordsA src i=[]:=by
 unfold wordsA
 rw [List.drop_of_length_le h]
 rfl
theorem drop_getD{src:List UInt8}{i:Nat}(h:i < src.length):src.drop i=src.getD i 0 :: src.drop (i+1):=by
 rw [List.getD_eq_getElem?_getD,List.getElem?_eq_getElem h]
 exact List.drop_eq_getElem_cons h
def runTo(p:UInt8→Bool)(src:List UInt8)(i:Nat):Nat:=((src.drop i).takeWhile p).length
theorem takeWhile_len{α:Type}(p:α→Bool):∀ l:List α,(l.takeWhile p).length+(l.dropWhile p).length=l.length
 | []=>rfl
 | a :: l=>by
  rw [List.takeWhile_cons,List.dropWhile_cons]
  have:=takeWhile_len p l
  split
  ·simp;omega
  ·simp
theorem dropWhile_drop'{α:Type}(p:α→Bool):∀ l:List α,l.dropWhile p=l.drop (l.takeWhile p).length
 | []=>rfl
 | a :: l=>by
  rw [List.takeWhile_cons,List.dropWhile_cons]
  split
  ·simpa using dropWhile_drop' p l
  ·rfl
theorem takeWhile_take'{α:Type}(p:α→Bool):∀ l:List α,l.takeWhile p=l.take (l.takeWhile p).length
 | []=>rfl
 | a :: l=>by
  rw [List.takeWhile_cons]
  split
  ·simpa using takeWhile_take' p l
  ·rfl
theorem runTo_le(p:UInt8→Bool){src:List UInt8}{i:Nat}(h:i≤src.length):i+runTo p src i≤src.length:=by
 unfold runTo
 have:=takeWhile_len p (src.drop i)
 rw [List.length_drop] at this
 omega
theorem runTo_pos{p:UInt8→Bool}{src:List UInt8}{i:Nat}(h:i < src.length)(hp:p (src.getD i 0)=true):0 < runTo p src i:=by
 unfold runTo
 rw [drop_getD h,List.takeWhile_cons_of_pos hp]
 simp
theorem wordsA_comment{src:List UInt8}{i:Nat}(h:i < src.length)(hb:src.getD i 0=59):wordsA src i=wordsA src (i+runTo (· != 10) src i):=by
 have hr:=runTo_le (· != 10) (Nat.le_of_lt h)
 have hp:=runTo_pos (p:=(· != 10)) h (by rw [hb];rfl)
 have hd:=drop_getD h
 unfold wordsA
 rw [hd,wordsF,if_pos hb,←hd,dropWhile_drop',List.drop_drop]
 exact wordsF_fuel _ _ _ _ (by rw [List.length_drop];unfold runTo at hp hr;omega) (by rw [List.length_drop];first | omega | (unfold runTo;omega))
theorem wordsA_gap{src:List UInt8}{i:Nat}(h:i < src.length)(hb:src.getD i 0≠59)(hg:gapB (src.getD i 0)=true):wordsA src i=wordsA src (i+1):=by
 have hd:=drop_getD h
 unfold wordsA
 rw [hd,wordsF,if_neg hb,if_pos hg]
 exact wordsF_fuel _ _ _ _ (by rw [List.length_drop];omega) (by rw [List.length_drop];omega)
theorem wordsA_word{src:List UInt8}{i:Nat}(h:i < src.length)(hg:gapB (src.getD i 0)=false) :
  wordsA src i=((src.drop i).take (runTo (fun c=>!gapB c) src i),i) :: wordsA src (i+runTo (fun c=>!gapB c) src i):=by
 have hr:=runTo_le (fun c=>!gapB c) (Nat.le_of_lt h)
 have hp:=runTo_pos (p:=fun c=>!gapB c) h (by simpa using hg)
 have hb:src.getD i 0≠59:=fun e=>by rw [e] at hg;cases hg
 have hd:=drop_getD h
 unfold wordsA
 rw [hd,wordsF,if_neg hb,if_neg (by rw [hg];simp),←hd,dropWhile_drop',List.drop_drop]
 rw [show (src.drop i).takeWhile (fun c=>!gapB c)=(src.drop i).take (runTo (fun c=>!gapB c) src i) from takeWhile_take' _ _]
 rw [show ((src.drop i).take (runTo (fun c=>!gapB c) src i)).length=runTo (fun c=>!gapB c) src i by
  rw [List.length_take,List.length_drop];omega]
 rw [wordsF_fuel (src.length-i) (src.length-(i+runTo (fun c=>!gapB c) src i)+1) _ _ (by rw [List.length_drop];omega) (by rw [List.length_drop];omega)]
theorem indexByte_run:∀ (l:List UInt8) (c:UInt8),Lib.indexByte l c=if l.contains c=true then ((l.takeWhile (· != c)).length:Int) else -1
 | [],c=>rfl
 | b :: l,c=>by
  have ih:=indexByte_run l c
  rw [Lib.indexByte]
  by_cases h:b=c
  ·subst h
   simp
  ·have h2:(b :: l).contains c=l.contains c:=by simp [Ne.symm h]
   rw [if_neg (by simpa using h),h2,List.takeWhile_cons_of_pos (by simpa using h),ih]
   by_cases h3:l.contains c=true
   ·rw [if_pos h3,if_pos h3,if_neg (by rw [beq_iff_eq];omega)]
    simp
   ·rw [if_neg h3,if_neg h3];rfl
def gapIx(x:List UInt8):Int:=if x.any gapB=true then ((x.takeWhile (fun c=>!gapB c)).length:Int) else -1
theorem takeWhile_all{p:UInt8→Bool}:∀ {x:List UInt8},(∀ b∈x,p b=true)→(x.takeWhile p).length=x.length
 | [],_=>rfl
 | a :: l,h=>by rw [List.takeWhile_cons_of_pos (h a (by simp))];simpa using takeWhile_all (fun b hb=>h b (by simp [hb]))
end Go.Proofs.YtpaplehcafeeaaaGreatDoor
namespace Go.Proofs.YtpaplehcafeeaaaGreatDoor
open Go.RowKit Go.Proofs
def readW(n:Nat)(s:AS)(ws:List Wd):AR:=readF n (ws.length+1) s ws
theorem fresh_end(s:AS)(n:Nat):¬ freshE s (nextW n []).1=0:=by show ¬ (4:Int)=0;decide
theorem valueL_nil(s:AS):valueL s []=(0,4):=rfl
def widthL(x:List UInt8):Nat:=
 if x=[98,121,116,101,115] then 2 else if x=[119,111,114,100,115] then 2 else if x=[108,111,99,97,108] then 1 else if x=[99,111,110,115,116] then 2
 else match findL x with | some op=>if op≤4∨op=35 then 1 else 0 | none=>0
def kindL(x:List UInt8):Nat × Nat × Nat:=
 if x=[98,121,116,101,115] then (1,0,0) else if x=[119,111,114,100,115] then (1,0,0) else if x=[108,111,99,97,108] then (0,1,0) else if x=[99,111,110,115,116] then (0,0,0)
 else (0,0,1)
structure Grew (s s':AS) (x:List UInt8):Prop where
 arrs:∃ l,s'.arrs=s.arrs++l∧l.length=(kindL x).1
 an:∃ l,s'.an=s.an++l∧l.length=(kindL x).1
 ln:∃ l,s'.ln=s.ln++l∧l.length=(kindL x).2.1
 code:∃ l,s'.code=s.code++l∧l.length=(kindL x).2.2
theorem arrayL_ok{n:Nat}{b:Bool}{s s':AS}{r r':List Wd}(h:arrayL n b s r=.ok s' r'):∃ x y t,r=x :: y :: t∧r'=t∧freshE s x.1=0∧s.an.length < 8∧(valueL s y.1).2=0∧1≤(valueL s y.1).1∧((valueL s y.1).1:Int)+s.cells≤65536∧s'={ s with arrs:=s.arrs++[⟨b,(valueL s y.1).1⟩],an:=s.an++[x.1] }:=by
 unfold arrayL at h
 dsimp only at h
 by_cases h1:freshE s (nextW n r).1=0
 ·by_cases h2:8≤s.an.length
  ·rw [if_neg (by simp [h1]),if_pos h2] at h;cases h
  ·by_cases h3:(valueL s (nextW n r.tail).1).2=0
   ·rw [if_neg (by simp [h1]),if_neg h2,if_neg (by simp [h3])] at h
    split at h
    ·cases h
    ·rename_i h4
     injection h with e1 e2
     rcases r with _ | ⟨x,_ | ⟨y,t⟩⟩
     ·exact absurd h1 (fresh_end s n)
     ·exact absurd h3 (by rw [List.tail_cons];show ¬ (valueL s []).2=0;rw [valueL_nil];decide)
     ·exact⟨x,y,t,rfl,e2.symm,h1,by omega,h3,by have:¬ ((valueL s y.1).1:Int) < 1:=fun h=>h4 (.inl h);omega,by have:¬ 65536 < ((valueL s y.1).1:Int)+s.cells:=fun h=>h4 (.inr h);omega,e1.symm⟩
   ·rw [if_neg (by simp [h1]),if_neg h2,if_pos h3] at h;cases h
 ·rw [if_pos h1] at h;cases h
theorem localL_ok{n:Nat}{s s':AS}{r r':List Wd}(h:localL n s r=.ok s' r'):∃ x t,r=x :: t∧r'=t∧freshE s x.1=0∧s.ln.length < 16∧s'={ s with ln:=s.ln++[x.1] }:=by
 unfold localL at h
 dsimp only at h
 by_cases h1:freshE s (nextW n r).1=0
 ·by_cases h2:16≤s.ln.length
  ·rw [if_neg (by simp [h1]),if_pos h2] at h;cases h
  ·rw [if_neg (by simp [h1]),if_neg h2] at h
   injection h with e1 e2
   rcases r with _ | ⟨x,t⟩
   ·exact absurd h1 (fresh_end s n)
   ·exact⟨x,t,rfl,e2.symm,h1,by omega,e1.symm⟩
 ·rw [if_pos h1] at h;cases h
theorem constL_ok{n:Nat}{s s':AS}{r r':List Wd}(h:constL n s r=.ok s' r'):∃ x y t,r=x :: y :: t∧r'=t∧freshE s x.1=0∧(valueL s y.1).2=0∧s'={ s with cn:=s.cn++[(x.1,(valueL s y.1).1)] }:=by
 unfold constL at h
 dsimp only at h
 by_cases h1:freshE s (nextW n r).1=0
 ·by_cases h3:(valueL s (nextW n r.tail).1).2=0
  ·rw [if_neg (by simp [h1]),if_neg (by simp [h3])] at h
   injection h with e1 e2
   rcases r with _ | ⟨x,_ | ⟨y,t⟩⟩
   ·exact absurd h1 (fresh_end s n)
   ·exact absurd h3 (by rw [List.tail_cons];show ¬ (valueL s []).2=0;rw [valueL_nil];decide)
   ·exact⟨x,y,t,rfl,e2.symm,h1,h3,e1.symm⟩
  ·rw [if_neg (by simp [h1]),if_pos h3] at h;cases h
 ·rw [if_pos h1] at h;cases h
def argL(s:AS)(op:Nat)(x:List UInt8):Nat × Int:=
 if op=0 then valueL s x
 else if op=35 then ((valueL s x).1,if (valueL s x).2≠0 then (valueL s x).2 else if 16≤(valueL s x).1 then 2 else 0)
 else if op=1∨op=2 then indexL s.ln x
 else indexL s.an x
theorem instrL_eq(n:Nat)(w:Wd)(s:AS)(r:List Wd):instrL n w s r=match findL w.1 with
  | none=>.bad w.2 4
  | some op=>if 1024≤s.code.length then .bad w.2 6 else if op≤4∨op=35 then
    (if (argL s op (nextW n r).1).2≠0 then .bad (nextW n r).2 (argL s op (nextW n r).1).2 else .ok { s with code:=s.code++[⟨op,(argL s op (nextW n r).1).1⟩] } r.tail)
    else .ok { s with code:=s.code++[⟨op,0⟩] } r:=by
 unfold instrL argL
 cases findL w.1 with
 | none=>rfl
 | some op=>
  dsimp only
  by_cases h0:1024≤s.code.length
  ·rw [if_pos h0,if_pos h0]
  rw [if_neg h0,if_neg h0]
  by_cases h1:op=0
  ·subst h1;simp
  by_cases h2:op=35
  ·subst h2
   simp only [if_neg (show ¬ (35:Nat)=0 by decide),if_pos rfl,if_pos (show (35:Nat)≤4∨(35:Nat)=35 from .inr rfl)]
   by_cases h3:(valueL s (nextW n r).1).2=0
   ·by_cases h4:16≤(valueL s (nextW n r).1).1
    ·simp [h3,h4]
    ·simp [h3,h4]
   ·simp [h3]
  by_cases h3:op=1∨op=2
  ·simp only [if_neg h1,if_neg h2,if_pos h3,if_pos (show op≤4∨op=35 by omega)]
  by_cases h4:op=3∨op=4
  ·simp only [if_neg h1,if_neg h2,if_neg h3,if_pos h4,if_pos (show op≤4∨op=35 by omega)]
  ·simp only [if_neg h1,if_neg h2,if_neg h3,if_neg h4,if_neg (show ¬ (op≤4∨op=35) by omega)]
theorem argL_nil(s:AS)(op:Nat):(argL s op []).2=4:=by
 unfold argL
 split
 ·rfl
 split
 ·rfl
 split <;> rfl
theorem instrL_ok{n:Nat}{w:Wd}{s s':AS}{r r':List Wd}(h:instrL n w s r=.ok s' r'):∃ op,findL w.1=some op∧s.code.length < 1024 ∧
  ((op≤4∨op=35)∧(∃ x t,r=x :: t∧r'=t∧(argL s op x.1).2=0∧s'={ s with code:=s.code++[⟨op,(argL s op x.1).1⟩] })∨¬ (op≤4∨op=35)∧r'=r∧s'={ s with code:=s.code++[⟨op,0⟩] }):=by
 rw [instrL_eq] at h
 cases hf:findL w.1 with
 | none=>rw [hf] at h;cases h
 | some op=>
  rw [hf] at h
  dsimp only at h
  by_cases h0:1024≤s.code.length
  ·rw [if_pos h0] at h;cases h
  rw [if_neg h0] at h
  by_cases h1:op≤4∨op=35
  ·rw [if_pos h1] at h
   by_cases h2:(argL s op (nextW n r).1).2=0
   ·rw [if_neg (by simp [h2])] at h
    injection h with e1 e2
    rcases r with _ | ⟨x,t⟩
    ·exact absurd h2 (by show ¬ (argL s op []).2=0;rw [argL_nil];decide)
    ·exact⟨op,rfl,by omega,.inl ⟨h1,x,t,rfl,e2.symm,h2,e1.symm⟩⟩
   ·rw [if_pos h2] at h;cases h
  ·rw [if_neg h1] at h
   injection h with e1 e2
   exact⟨op,rfl,by omega,.inr ⟨h1,e2.symm,e1.symm⟩⟩
theorem stepL_grew{n:Nat}{w:Wd}{s s':AS}{r r':List Wd}(h:stepL n w s r=.ok s' r'):r'=r.drop (widthL w.1)∧widthL w.1≤r.length∧Grew s s' w.1:=by
 unfold stepL at h
 by_cases h1:w.1=[98,121,116,101,115]
 ·rw [if_pos h1] at h
  obtain⟨x,y,t,rfl,rfl,_,_,_,_,_,rfl⟩:=arrayL_ok h
  rw [h1]
  exact⟨rfl,by simp [widthL],⟨_,rfl,rfl⟩,⟨_,rfl,rfl⟩,⟨[],(List.append_nil _).symm,rfl⟩,⟨[],(List.append_nil _).symm,rfl⟩⟩
 rw [if_neg h1] at h
 by_cases h2:w.1=[119,111,114,100,115]
 ·rw [if_pos h2] at h
  obtain⟨x,y,t,rfl,rfl,_,_,_,_,_,rfl⟩:=arrayL_ok h
  rw [h2]
  exact⟨rfl,by simp [widthL],⟨_,rfl,rfl⟩,⟨_,rfl,rfl⟩,⟨[],(List.append_nil _).symm,rfl⟩,⟨[],(List.append_nil _).symm,rfl⟩⟩
 rw [if_neg h2] at h
 by_cases h3:w.1=[108,111,99,97,108]
 ·rw [if_pos h3] at h
  obtain⟨x,t,rfl,rfl,_,_,rfl⟩:=localL_ok h
  rw [h3]
  exact⟨rfl,by simp [widthL],⟨[],(List.append_nil _).symm,rfl⟩,⟨[],(List.append_nil _).symm,rfl⟩,⟨_,rfl,rfl⟩,⟨[],(List.append_nil _).symm,rfl⟩⟩
 rw [if_neg h3] at h
 by_cases h4:w.1=[99,111,110,115,116]
 ·rw [if_pos h4] at h
  obtain⟨x,y,t,rfl,rfl,_,_,rfl⟩:=constL_ok h
  rw [h4]
  exact⟨rfl,by simp [widthL],⟨[],(List.append_nil _).symm,rfl⟩,⟨[],(List.append_nil _).symm,rfl⟩,⟨[],(List.append_nil _).symm,rfl⟩,⟨[],(List.append_nil _).symm,rfl⟩⟩
 rw [if_neg h4] at h
 have hk:kindL w.1=(0,0,1):=by unfold kindL;rw [if_neg h1,if_neg h2,if_neg h3,if_neg h4]
 obtain⟨op,hf,_,⟨ho,x,t,rfl,rfl,_,rfl⟩ | ⟨ho,rfl,rfl⟩⟩:=instrL_ok h
 ·have hw:widthL w.1=1:=by unfold widthL;rw [if_neg h1,if_neg h2,if_neg h3,if_neg h4,hf];exact if_pos ho
  rw [hw]
  refine⟨rfl,by simp,?_,?_,?_,?_⟩
  ·rw [hk];exact⟨[],(List.append_nil _).symm,rfl⟩
  ·rw [hk];exact⟨[],(List.append_nil _).symm,rfl⟩
  ·rw [hk];exact⟨[],(List.append_nil _).symm,rfl⟩
  ·rw [hk];exact⟨_,rfl,rfl⟩
 ·have hw:widthL w.1=0:=by unfold widthL;rw [if_neg h1,if_neg h2,if_neg h3,if_neg h4,hf];exact if_neg ho
  rw [hw]
  refine⟨rfl,by simp,?_,?_,?_,?_⟩
  ·rw [hk];exact⟨[],(List.append_nil _).symm,rfl⟩
  ·rw [hk];exact⟨[],(List.append_nil _).symm,rfl⟩
  ·rw [hk];exact⟨[],(List.append_nil _).symm,rfl⟩
  ·rw [hk];exact⟨_,rfl,rfl⟩
theorem readF_enough(n:Nat):∀ (f g:Nat) (s:AS) (ws:List Wd),ws.length < f→ws.length < g→readF n f s ws=readF n g s ws
 | 0,_,_,_,h,_=>by omega
 | _+1,0,_,_,_,h=>by omega
 | f+1,g+1,s,[],_,_=>rfl
 | f+1,g+1,s,w :: r,h,h'=>by
  simp only [List.length_cons] at h h'
  rw [readF,readF]
  cases hs:stepL n w s r with
  | bad a e=>rfl
  | ok s' r'=>
   have:=(stepL_grew hs).1
   have hl:r'.length≤r.length:=by rw [this,List.length_drop];omega
   exact readF_enough n f g s' r' (by omega) (by omega)
theorem readW_nil(n:Nat)(s:AS):readW n s []=.ok s []:=rfl
theorem readW_bad{n:Nat}{w:Wd}{s:AS}{r:List Wd}{a:Nat}{e:Int}(h:stepL n w s r=.bad a e):readW n s (w :: r)=.bad a e:=by
 unfold readW;rw [readF,h]
theorem readW_ok{n:Nat}{w:Wd}{s s':AS}{r r':List Wd}(h:stepL n w s r=.ok s' r'):readW n s (w :: r)=readW n s' r':=by
 have:=(stepL_grew h).1
 have hl:r'.length≤r.length:=by rw [this,List.length_drop];omega
 unfold readW;rw [readF,h]
 exact readF_enough n _ _ s' r' (by simp;omega) (by omega)
theorem readL_eq{src:List UInt8}(h:src.length≤8192):readL src=readW src.length AS.start (wordsL src):=by
 unfold readL;rw [if_neg (by omega)];rfl
end Go.Proofs.YtpaplehcafeeaaaGreatDoor
namespace Go.Proofs.YtpaplehcafeeaaaGreatDoor
open Go.RowKit Go.Proofs
theorem Grew.step{s s':AS}{x:List UInt8}(h:Grew s s' x):(∃ l,s'.arrs=s.arrs++l)∧(∃ l,s'.code=s.code++l)∧(∃ l,s'.ln=s.ln++l):=
 ⟨h.arrs.imp fun _ h=>h.1,h.code.imp fun _ h=>h.1,h.ln.imp fun _ h=>h.1⟩
end Go.Proofs.YtpaplehcafeeaaaGreatDoor
namespace Go.Proofs.YtpaplehcafeeaaaGreatDoor
open Go.RowKit Go.Proofs
theorem wordsA_cases{src:List UInt8}(Pr:Nat→Prop)(hend:∀ i,src.length=i→Pr i)
  (hstep:∀ i,i < src.length→(∀ j,i < j→j≤src.length→Pr j)→Pr i):∀ i,i≤src.length→Pr i:=by
 have:∀ k i,src.length-i≤k→i≤src.length→Pr i:=fun k=>by
  induction k with
  | zero=>intro i h h2;exact hend i (by omega)
  | succ k ih=>
   intro i h h2
   rcases Nat.lt_or_ge i src.length with h3 | h3
   ·exact hstep i h3 (fun j h4 h5=>ih j (by omega) h5)
   ·exact hend i (by omega)
 exact fun i=>this _ i (Nat.le_refl _)
theorem wordsA_next{src:List UInt8}{i:Nat}(h:i < src.length) :
  (src.getD i 0=59∧i < i+runTo (· != 10) src i∧i+runTo (· != 10) src i≤src.length∧wordsA src i=wordsA src (i+runTo (· != 10) src i)) ∨
  (src.getD i 0≠59∧gapB (src.getD i 0)=true∧wordsA src i=wordsA src (i+1)) ∨
  (gapB (src.getD i 0)=false∧i < i+runTo (fun c=>!gapB c) src i∧i+runTo (fun c=>!gapB c) src i≤src.length∧wordsA src i=((src.drop i).take (runTo (fun c=>!gapB c) src i),i) :: wordsA src (i+runTo (fun c=>!gapB c) src i)):=by
 cases hg:gapB (src.getD i 0) with
 | false=>exact .inr (.inr ⟨rfl,by have:=runTo_pos (p:=fun c=>!gapB c) h (by simpa using hg);omega,runTo_le _ (Nat.le_of_lt h),wordsA_word h hg⟩)
 | true=>
  by_cases h59:src.getD i 0=59
  ·exact .inl ⟨h59,by have:=runTo_pos (p:=(· != 10)) h (by rw [h59];rfl);omega,runTo_le _ (Nat.le_of_lt h),wordsA_comment h h59⟩
  ·exact .inr (.inl ⟨h59,rfl,wordsA_gap h h59 hg⟩)
end Go.Proofs.YtpaplehcafeeaaaGreatDoor
namespace Go.Proofs.YtpaplehcafeeaaaGreatDoor
open Go.RowKit Go.Proofs
theorem numL_lt{x:List UInt8}{n:Nat}(h:numL x=some n):n < 4294967296:=by
 have hb:∀ (o:Option Nat),(o.bind fun n=>if n < 4294967296 then some n else none)=some n→n < 4294967296:=fun o h=>by
  cases o with
  | none=>cases h
  | some m=>
   by_cases hm:m < 4294967296
   ·simp [hm] at h;omega
   ·simp [hm] at h
 unfold numL at h
 split at h
 ·split at h
  ·cases h
  ·exact hb _ h
 split at h
 ·cases h
 split at h
 ·cases h
 ·exact hb _ h
theorem findL_some{x:List UInt8}{k:Nat}(h:findL x=some k):k < 36∧(opO k).name=x:=by
 unfold findL at h
 have h1:=List.find?_some h
 have h2:=List.mem_of_find?_eq_some h
 exact⟨List.mem_range.1 h2,by simpa using h1⟩
theorem indexL_ok{l:List (List UInt8)}{x:List UInt8}(h:(indexL l x).2=0):(indexL l x).1 < l.length∧nameL x=true∧x∈l:=by
 unfold indexL at h ⊢
 by_cases h1:nameL x=false
 ·rw [if_pos h1] at h;cases h
 rw [if_neg h1] at h ⊢
 by_cases h2:l.contains x=false
 ·rw [if_pos h2] at h;cases h
 rw [if_neg h2]
 have h3:x∈l:=by
  have:l.contains x=true:=by simpa using h2
  simpa using this
 exact⟨List.idxOf_lt_length_iff.2 h3,by simpa using h1,h3⟩
def InsOk(a l:Nat)(i:Ins):Prop:=0≤i.op∧i.op < 36∧0≤i.arg∧i.arg < 4294967296∧(i.op=35→i.arg < 16)∧(i.op=1∨i.op=2→i.arg < l)∧(i.op=3∨i.op=4→i.arg < a)∧(4 < i.op→i.op≠35→i.arg=0)
structure Formed (s:AS):Prop where
 an:s.an.length=s.arrs.length
 few:s.arrs.length≤8
 sizes:∀ x∈s.arrs,1≤x.size∧x.size≤65536
 cells:s.cells≤65536
 locs:s.ln.length≤16
 code:s.code.length≤1024
 ins:∀ i∈s.code,InsOk s.arrs.length s.ln.length i
 cn:∀ p∈s.cn,p.2 < 4294967296
theorem Formed.start:Formed AS.start:=⟨rfl,by decide,by simp [AS.start],by decide,by decide,by decide,by simp [AS.start],by simp [AS.start]⟩
theorem valueL_lt{s:AS}(hc:∀ p∈s.cn,p.2 < 4294967296)(x:List UInt8):(valueL s x).1 < 4294967296:=by
 unfold valueL
 cases h:numL x with
 | some n=>exact numL_lt h
 | none=>
  dsimp only
  by_cases h1:nameL x=false
  ·rw [if_pos h1];decide
  ·rw [if_neg h1]
   cases h2:conOf s x with
   | none=>decide
   | some n=>
    unfold conOf at h2
    cases h3:s.cn.find? fun p=>decide (p.1=x) with
    | none=>rw [h3] at h2;cases h2
    | some p=>
     rw [h3] at h2
     have h2:p.2=n:=by simpa using h2
     have:=hc p (List.mem_of_find?_eq_some h3)
     show n < _
     omega
theorem InsOk.mono{a l a' l':Nat}{i:Ins}(h:InsOk a l i)(ha:a≤a')(hl:l≤l'):InsOk a' l' i:=by
 obtain⟨h1,h2,h3,h4,h5,h6,h7,h8⟩:=h
 exact⟨h1,h2,h3,h4,h5,fun h=>by have:=h6 h;omega,fun h=>by have:=h7 h;omega,h8⟩
theorem argL_ok{s:AS}(hF:Formed s){op:Nat}(ho:op≤4∨op=35){x:List UInt8}(h:(argL s op x).2=0):InsOk s.arrs.length s.ln.length ⟨op,(argL s op x).1⟩:=by
 have hv:=valueL_lt hF.cn x
 unfold argL at h ⊢
 by_cases h0:op=0
 ·rw [if_pos h0] at h ⊢
  subst h0
  exact⟨by dsimp only;omega,by dsimp only;omega,by dsimp only;omega,by dsimp only;omega,fun h=>by dsimp only at h;omega,fun h=>by dsimp only at h;omega,fun h=>by dsimp only at h;omega,fun h=>by dsimp only at h;omega⟩
 rw [if_neg h0] at h ⊢
 by_cases h1:op=35
 ·rw [if_pos h1] at h ⊢
  subst h1
  have h16:(valueL s x).1 < 16:=by
   by_cases h2:(valueL s x).2≠0
   ·dsimp only at h;rw [if_pos h2] at h;exact absurd h h2
   ·dsimp only at h;rw [if_neg h2] at h
    by_cases h3:16≤(valueL s x).1
    ·rw [if_pos h3] at h;cases h
    ·omega
  exact⟨by dsimp only;omega,by dsimp only;omega,by dsimp only;omega,by dsimp only;omega,fun _=>by dsimp only;omega,fun h=>by dsimp only at h;omega,fun h=>by dsimp only at h;omega,fun _ h=>absurd rfl h⟩
 rw [if_neg h1] at h ⊢
 have hl:=hF.locs
 have ha:=hF.few
 by_cases h2:op=1∨op=2
 ·rw [if_pos h2] at h ⊢
  have hi:=(indexL_ok h).1
  exact⟨by dsimp only;omega,by dsimp only;omega,by dsimp only;omega,by dsimp only;omega,fun h=>by dsimp only at h;omega,fun _=>by dsimp only;omega,fun h=>by dsimp only at h;omega,fun h=>by dsimp only at h;omega⟩
 ·rw [if_neg h2] at h ⊢
  have hi:=(indexL_ok h).1
  rw [hF.an] at hi
  exact⟨by dsimp only;omega,by dsimp only;omega,by dsimp only;omega,by dsimp only;omega,fun h=>by dsimp only at h;omega,fun h=>by dsimp only at h;omega,fun _=>by dsimp only;omega,fun h=>by dsimp only at h;omega⟩
def prgOf(s:AS):Prg:=⟨s.arrs,(s.ln.length:Int),s.code⟩
theorem sumA_cells:∀ l:List Arr,sumA l=(l.map (·.size)).sum
 | []=>rfl
 | x :: l=>by rw [sumA,List.map_cons,List.sum_cons,sumA_cells l]
theorem InsOk.chk{a l:Nat}{i:Ins}(h:InsOk a l i)(ha:a≤8)(hl:l≤16):chkE i=0:=by
 obtain⟨op,arg⟩:=i
 obtain⟨h1,h2,h3,h4,h5,h6,h7,h8⟩:=h
 dsimp only at h1 h2 h3 h4 h5 h6 h7 h8
 obtain⟨k,rfl⟩:∃ k:Nat,op=(k:Int):=⟨op.toNat,by omega⟩
 rw [chk_in (by omega),if_neg]
 have hlim:(opO k).limit=if k=0 then 4294967296 else if k=1∨k=2∨k=35 then 16 else if k=3∨k=4 then 8 else 1:=lim_tab ⟨k,by omega⟩
 rw [hlim]
 by_cases e0:k=0
 ·rw [if_pos e0];omega
 rw [if_neg e0]
 by_cases e1:k=1∨k=2∨k=35
 ·rw [if_pos e1]
  rcases e1 with e | e | e
  ·have:=h6 (by omega);omega
  ·have:=h6 (by omega);omega
  ·have:=h5 (by omega);omega
 rw [if_neg e1]
 by_cases e2:k=3∨k=4
 ·rw [if_pos e2];have:=h7 (by omega);omega
 ·rw [if_neg e2];have:=h8 (by omega) (by omega);omega
theorem codeE_zero:∀ {l:List Ins},(∀ i∈l,chkE i=0)→codeE l=0
 | [],_=>rfl
 | i :: l,h=>by
  rw [codeE_step,if_neg (by rw [h i (by simp)];decide)]
  exact codeE_zero (fun x hx=>h x (by simp [hx]))
theorem Formed.form{s:AS}(h:Formed s):formE (prgOf s)=0:=by
 have h1:arrE s.arrs=0:=by
  unfold arrE
  rw [if_neg (by have:=h.few;omega),arrGo_sum _ _ (by omega) (fun x hx=>(h.sizes x hx).1),if_neg]
  rw [sumA_cells]
  have:=h.cells
  show ¬ 65536 < s.cells
  omega
 unfold formE prgOf
 dsimp only
 rw [if_neg (by rw [h1];decide),if_neg (by have:=h.locs;omega),if_neg (by have:=h.code;omega)]
 exact codeE_zero (fun i hi=>(h.ins i hi).chk h.few h.locs)
end Go.Proofs.YtpaplehcafeeaaaGreatDoor
