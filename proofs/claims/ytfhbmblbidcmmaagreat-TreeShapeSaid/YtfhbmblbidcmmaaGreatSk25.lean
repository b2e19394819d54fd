/- treeShape holds for every input. No condition. (part 25) -/
import Derived.Test.YtfhbmblbidcmmaaGreatSk22
import Derived.Test.YtfhbmblbidcmmaaGreatSk23
import Derived.Test.YtfhbmblbidcmmaaGreatSk24
set_option linter.all false
set_option maxRecDepth 100000
set_option maxHeartbeats 3200000
namespace Go.Tr
theorem PL{α:Type}{f:α→List Value}{s:Nat}(a: ∀x,(f x).length=s): ∀(l:List α)(i:Nat),(l.flatMap f).drop (i*s)=(l.drop i).flatMap f
 | [],i=>by simp
 |y::l,0=>by simp
 | y :: l, i + 1 => by
  rw[List.flatMap_cons,List.drop_succ_cons,Nat.add_mul,Nat.one_mul,Nat.add_comm (i*s) s,←List.drop_drop,List.drop_left' (a y)]
  exact PL a l i
theorem PN{α:Type}{f:α→List Value}{s:Nat}(a: ∀x,(f x).length=s): ∀(l:List α)(i:Nat),(l.flatMap f).take (i*s)=(l.take i).flatMap f
 | [],i=>by simp
 |y::l,0=>by simp
 | y :: l, i + 1 => by
  rw[List.flatMap_cons,List.take_succ_cons,List.flatMap_cons,Nat.add_mul,Nat.one_mul,Nat.add_comm (i*s) s,List.take_append,a y,Nat.add_sub_cancel_left,List.take_of_length_le (by rw[a];omega),PN a l i]
theorem WN{α:Type}(l:List α){i j:Nat}(h:j≤l.length):(sub l i j).length=j-i:=by
 unfold sub
 rw[List.length_take,List.length_drop]
 omega
theorem S2{α:Type}{f:α→List Value}{s:Nat}(a: ∀x,(f x).length=s)(l:List α)(i j:Nat):((l.flatMap f).drop (i*s)).take ((j-i)*s)=(sub l i j).flatMap f:=by
 rw[PL a,PN a]
 rfl
end Go.Tr
namespace Go.Proofs.YtfhbmblbidcmmaaGreat
open Go.RowKit Go.Sl Go.Dk Go.Tr
theorem K2{B:Ac}{a:Option Addr}{c:Nat}{l:List Au}(h:An B (.slice a l.length c) l){i j:Nat}(h1:i≤j)(b:j≤l.length):An B (.slice (AJ a c i 4) (j-i) (c-i)) (sub l i j):=by
 have:=Al.cut h i j h1 b
 unfold An
 rw[WN l b,Bb,←S2 (s:=4) (fun _=>rfl)]
 exact this
theorem Ix{B:Ac}{a:Option Addr}{c:Nat}{l:List Kd}(h:AR B (.slice a l.length c) l){i j:Nat}(h1:i≤j)(b:j≤l.length):AR B (.slice (AJ a c i 4) (j-i) (c-i)) (sub l i j):=by
 have:=Al.cut h i j h1 b
 unfold AR
 rw[WN l b,Gk,←S2 (s:=4) (fun _=>rfl)]
 exact this
theorem PH(w:World):Calls Tryz.prog 158 #[.int .i64 0] w fun e a=>e= .returned (.tuple #[])∧w=a:=by
 go_enter Tryz.func158,Tryz.ntmps158
 go_wp2
 go_end0
 exact ⟨rfl,rfl⟩
theorem IU(e:Int)(h:e≠0)(w:World):Calls Tryz.prog 158 #[.int .i64 e] w fun a b=>a= .panicked (C1 e)∧w=b:=by
 have c:(e==0)=false:=by simp[h]
 have d:(e !=0)=true:=by simp[h]
 go_enter Tryz.func158,Tryz.ntmps158
 go_wp2
 exact ⟨rfl,rfl,rfl⟩
theorem Ol(n:Nd)(v:Value)(B F:Ac)(w:World)(j:AG B v n)(hs:Sat (B*F) w)(k:n.Ag.length≤4294967296)(l:n.kids.length≤4294967296):
 Calls Tryz.prog 130 #[v] w fun e m=>e= .returned (.int .i64 (many n))∧Sat (B*F) m:=by
 obtain ⟨q,vK,rfl,a,b⟩:=j
 obtain ⟨aE,cE,rfl,c,d⟩:=a.v
 obtain ⟨o,p,rfl,f,g⟩:=b.v
 haveI:=hs.i
 clear a b
 go_enter Tryz.func130,Tryz.ntmps130
 go_wp2
 go_ret
 refine ⟨?_,Ap B F⟩
 simp[many]
abbrev D5:TypeId:=175
def Bd(x:BG):Value:= .agg #[.int .i64 x.DT.As,.int .i64 x.DT.bytes,.int .i64 x.DT.lines,.int .i64 x.DT.A4,.int .i64 x.Am]
def fY(k:Kd):Value:= .agg #[.int .i64 k.As,.int .i64 k.bytes,.int .i64 k.lines,.int .i64 k.A4]
theorem Ll(F:Ac)(w:World)(hs:Sat F w):Calls Tryz.prog 143 #[] w fun e a=>e= .returned (Bd C4)∧Sat F a:=by
 haveI:=hs.i
 go_enter Tryz.func143,Tryz.ntmps143
 go_wp2
 go_returns
 exact ⟨rfl,Zm F⟩
theorem OR(n:Nd)(i j:Nat)(v:Value)(B F:Ac)(w:World)(y:AG B v n)(hs:Sat (B*F) w)(b:i≤j)(g:j≤if n.leaf then n.Ag.length else n.kids.length):
 Calls Tryz.prog 166 #[v,.int .i64 i,.int .i64 j] w fun e D=> ∃v',e= .returned v'∧AG B v' (C5 n i j)∧Sat (B*F) D:=by
 obtain ⟨i0,E⟩:=Ey
 obtain ⟨G,r⟩:=LK
 obtain ⟨H,vK,rfl,m,o⟩:=y
 obtain ⟨aE,cE,rfl,s,t⟩:=m.v
 obtain ⟨p,l,rfl,u,x⟩:=o.v
 obtain ⟨lf,d⟩:=Aq n.leaf
 unfold C5
 rw[d] at g⊢
 haveI:=hs.i
 cases lf with
 | true =>
  simp only[if_true] at g⊢
  have f:Aside (An B (.slice (AJ aE cE i 4) (j-i) (cE-i)) (sub n.Ag i j)):=K2 m b g
  have q:=D8 (P:=Tryz.prog) E (a:=aE) (n:=n.Ag.length) (c:=cE) i j b (by omega)
  clear m o d
  obtain ⟨z,k⟩:=Aq (AJ aE cE i 4)
  rw[k] at q f
  clear k
  go_enter Tryz.func166,Tryz.ntmps166
  go_wp2
  go_returns
  exact ⟨_,rfl,⟨_,_,rfl,f.out,Al.nil 4 _⟩,Ap B F⟩
 | false =>
  simp only[Bool.false_eq_true,if_false] at g⊢
  have f:Aside (AR B (.slice (AJ p l i 4) (j-i) (l-i)) (sub n.kids i j)):=Ix o b g
  have q:=D8 (P:=Tryz.prog) r (a:=p) (n:=n.kids.length) (c:=l) i j b (by omega)
  clear m o d
  obtain ⟨z,k⟩:=Aq (AJ p l i 4)
  rw[k] at q f
  clear k
  go_enter Tryz.func166,Tryz.ntmps166
  go_wp2
  go_returns
  exact ⟨_,rfl,⟨_,_,rfl,Al.nil 4 _,f.out⟩,Ap B F⟩
end Go.Proofs.YtfhbmblbidcmmaaGreat
namespace Go.Sl
theorem WL{A R:Ac}{b e s:Nat}{w:World}[Bg A w][Take A (Sl.block b e []) R]:Sat (rw e s (.slice (some ⟨b,0,none⟩) 0 0) []*R) w:=
 Sat.DX (sp:= []) (by simp) (by simp) (Nat.le_refl _) (by simp[maxLen]) (Af (Sl.block b e []))
end Go.Sl
namespace Go.Proofs.YtfhbmblbidcmmaaGreat
open Go.RowKit Go.Sl Go.Dk Go.Tr
theorem Gr(l:List Au): ∀u∈Bb l,u.oneCell'=true:=by
 intro u a
 unfold Bb Cx at a
 rw[List.mem_flatMap] at a
 obtain ⟨x,_,a⟩:=a
 simp at a
 rcases a with rfl|rfl|rfl|rfl<;>rfl
theorem W0(l:List Kd): ∀u∈Gk l,u.oneCell'=true:=by
 intro u a
 unfold Gk Pv at a
 rw[List.mem_flatMap] at a
 obtain ⟨x,_,a⟩:=a
 simp at a
 rcases a with rfl|rfl|rfl|rfl<;>rfl
theorem Dm{a:Option Addr}{n c:Nat}{l:List Au}{F:Ac}{w:World}(hs:Sat (rw AM 4 (.slice a n c) (Bb l)*F) w)(b:n=l.length):An (rw AM 4 (.slice a n c) (Bb l)) (.slice a n c) l:=by
 subst b
 exact Al.rw hs ⟨a,c,rfl⟩
theorem Yd{a:Option Addr}{n c:Nat}{l:List Kd}{F:Ac}{w:World}(hs:Sat (rw JX 4 (.slice a n c) (Gk l)*F) w)(b:n=l.length):AR (rw JX 4 (.slice a n c) (Gk l)) (.slice a n c) l:=by
 subst b
 exact Al.rw hs ⟨a,c,rfl⟩
theorem Nw(a b:Nd)(Z vb:Value)(B F:Ac)(w:World)(hA:AG B Z a)(hB:AG B vb b)(hs:Sat (B*F) w)(h1:a.Ag.length≤65536)(h2:b.Ag.length≤65536)(h3:a.kids.length≤65536)(h4:b.kids.length≤65536):
 Calls Tryz.prog 169 #[Z,vb] w fun e g=> ∃v' G,e= .returned v'∧AG G v' (both a b)∧Sat (G*(B*F)) g:=by
 obtain ⟨i0,E⟩:=Ey
 obtain ⟨i1,K⟩:=LK
 obtain ⟨vE,vK,rfl,s,t⟩:=hA
 obtain ⟨aE,cE,rfl,am,an⟩:=s.v
 obtain ⟨j,m,rfl,ao,ap⟩:=t.v
 obtain ⟨uE,uK,rfl,q,r⟩:=hB
 obtain ⟨k,o,rfl,ad,ae⟩:=q.v
 obtain ⟨l,p,rfl,af,ag⟩:=r.v
 have O:Aside (An B (.slice aE a.Ag.length cE) a.Ag):=s
 have Q:Aside (AR B (.slice j a.kids.length m) a.kids):=t
 have L:Aside (An B (.slice k b.Ag.length o) b.Ag):=q
 have M:Aside (AR B (.slice l b.kids.length p) b.kids):=r
 obtain ⟨c,u⟩:=Aq a.Ag.length
 obtain ⟨f,x⟩:=Aq b.Ag.length
 obtain ⟨d,y⟩:=Aq a.kids.length
 obtain ⟨n4,z⟩:=Aq b.kids.length
 have R:Aside (c+f=(a.Ag++b.Ag).length∧d+n4=(a.kids++b.kids).length):=⟨by simp[u,x],by simp[y,z]⟩
 have D:=fun(F:Ac)(w:World)(h:Sat (B*F) w)=>O.out.src (P:=Tryz.prog) (Gr a.Ag) h
 have H:=fun(F:Ac)(w:World)(h:Sat (B*F) w)=>Q.out.src (P:=Tryz.prog) (W0 a.kids) h
 have I:=fun(F:Ac)(w:World)(h:Sat (B*F) w)=>L.out.src (P:=Tryz.prog) (Gr b.Ag) h
 have J:=fun(F:Ac)(w:World)(h:Sat (B*F) w)=>M.out.src (P:=Tryz.prog) (W0 b.kids) h
 rw[u] at D h1⊢
 rw[x] at I h2⊢
 rw[y] at H h3⊢
 rw[z] at J h4⊢
 have SE:Aside (∀(F:Ac)(w:World),Sat (B*F) w→Src Tryz.prog 4 w (.slice aE c cE) c (Bb a.Ag)):=D
 have SK:Aside (∀(F:Ac)(w:World),Sat (B*F) w→Src Tryz.prog 4 w (.slice j d m) d (Gk a.kids)):=H
 have TE:Aside (∀(F:Ac)(w:World),Sat (B*F) w→Src Tryz.prog 4 w (.slice k f o) f (Bb b.Ag)):=I
 have TK:Aside (∀(F:Ac)(w:World),Sat (B*F) w→Src Tryz.prog 4 w (.slice l n4 p) n4 (Gk b.kids)):=J
 haveI:=hs.i
 clear s t q r u x y z D H I J O Q L M
 go_enter Tryz.func169,Tryz.ntmps169
 go_upto_region 1 with (fail)
 go_region_held3 (fun g=>g.cell? ⟨w.heap.size,0,none⟩=some (.bool a.leaf)∧g.cell? ⟨w.heap.size,1,none⟩=some (.slice aE c cE)∧g.cell? ⟨w.heap.size,2,none⟩=some (.slice j d m)∧g.cell? ⟨w.heap.size+1,1,none⟩=some (.slice k f o)∧g.cell? ⟨w.heap.size+1,2,none⟩=some (.slice l n4 p)) (exact ⟨Ab _ _ _,Ab _ _ _,Ab _ _ _,Ab _ _ _,Ab _ _ _⟩) (first
  |(refine B9 E rfl (.tmp 7) (.tmp 9) rfl rfl rfl WL (SE.out _ _ (Af B)) (by unfold maxLen;omega) (by omega) ?_;intro a1 c1 w1 V z1;clear z1;rw[Nat.zero_add,List.nil_append] at V;rw[Nat.zero_add];haveI:=V.i)
  |(refine B9 E rfl (.tmp 10) (.tmp 12) rfl rfl rfl (Af (rw AM 4 (.slice a1 c c1) (Bb a.Ag))) (TE.out _ _ (Af B)) (by unfold maxLen;omega) (by omega) ?_;intro T c2 w2 W z2;clear z2;haveI:=W.i)
  |(refine B9 K rfl (.tmp 14) (.tmp 16) rfl rfl rfl WL (SK.out _ _ (Af B)) (by unfold maxLen;omega) (by omega) ?_;intro a3 c3 w3 X z3;clear z3;rw[Nat.zero_add,List.nil_append] at X;rw[Nat.zero_add];haveI:=X.i)
  |(refine B9 K rfl (.tmp 17) (.tmp 19) rfl rfl rfl (Af (rw JX 4 (.slice a3 d c3) (Gk a.kids))) (TK.out _ _ (Af B)) (by unfold maxLen;omega) (by omega) ?_;intro U c4 w4 Y z4;clear z4;haveI:=Y.i))
 all_goals
  go_wp2
  go_returns
  have e1:Bb a.Ag++Bb b.Ag=Bb (both a b).Ag:=by simp[Bb,both]
  have e2:Gk a.kids++Gk b.kids=Gk (both a b).kids:=by simp[Gk,both]
  have r1:=Al.rw W ⟨T,c2,rfl⟩ (n:=c+f)
  have r2:=Al.rw Y ⟨U,c4,rfl⟩ (n:=d+n4)
  refine ⟨_,rw AM 4 (.slice T (c+f) c2) (Bb a.Ag++Bb b.Ag)*rw JX 4 (.slice U (d+n4) c4) (Gk a.kids++Gk b.kids),rfl,⟨_,_,rfl,Al.left ?_,Al.right ?_⟩,(ET _ _ _ _).eq (Az _ _ _).symm⟩
  ·rw[←e1,show (both a b).Ag.length=c+f from R.out.1.symm]
   exact r1
  rw[←e2,show (both a b).kids.length=d+n4 from R.out.2.symm]
  exact r2
end Go.Proofs.YtfhbmblbidcmmaaGreat
namespace Go.Tr
theorem C6{l:List Au}(hm: ∀x∈l,0≤x.len∧x.len≤1048576): ∀i:Nat,0≤Aa (l.take i)∧Aa (l.take i)≤i*1048576:=by
 intro i
 induction i with
 |zero=>simp[Aa]
 | succ i a =>
  cases hx:l[i]? with
  | none =>
   have:l.take (i+1)=l.take i:=by
    have hl:l.length≤i:=by simpa using hx
    rw[List.take_of_length_le hl,List.take_of_length_le (by omega)]
   rw[this]
   omega
  | some x =>
   have:=hm x (List.mem_of_getElem? hx)
   rw[List.take_add_one,hx]
   simp only[Option.toList,Ao]
   have:Aa [x]=x.len:=by simp[Aa]
   omega
end Go.Tr
namespace Go.Proofs.YtfhbmblbidcmmaaGreat
open Go.RowKit Go.Sl Go.Dk Go.Tr
theorem Mq(l:List Au)(v:Value)(B F:Ac)(w:World)(j:An B v l)(hs:Sat (B*F) w)(hl:l.length≤4294967296)(hm: ∀x∈l,0≤x.len∧x.len≤1048576):
 Calls Tryz.prog 92 #[v] w fun e L=>e= .returned (.int .i64 (Aa l))∧Sat (B*F) L:=by
 obtain ⟨t,c0,rfl,u,D⟩:=j.v
 have r:Aside (An B (.slice t l.length c0) l):=j
 have s:Aside (∀i:Nat,0≤Aa (l.take i)∧Aa (l.take i)≤i*1048576):=C6 hm
 have d:Aside (∀x∈l,0≤x.len∧x.len≤1048576):=hm
 obtain ⟨n,m⟩:=Aq l.length
 rw[m] at hl⊢
 have o:Aside (l.length=n):=m
 haveI:=hs.i
 clear j hm m
 go_enter Tryz.func92,Tryz.ntmps92
 go_wp2
 go_loopg [3,8] n (fun g J K wr=> ∃(i:Nat),K= .int .i64 i∧J= .int .i64 (Aa (l.take i))∧i≤n∧Aside (g=n-i)∧Sat (B*F) wr)
 case atStart=>exact ⟨0,rfl,by simp[Aa],by omega,rfl,hs⟩
 obtain ⟨i,rfl,rfl,hi,A,c⟩:=hrel
 haveI:=c.i
 clear hs
 by_cases k:i<n
 ·have a:(i:Int)<n:=by omega
  obtain ⟨y,hy⟩: ∃y,l[i]?=some y:=⟨_,List.getElem?_eq_getElem (by rw[o.out];exact k)⟩
  obtain ⟨b,q,rfl,r1,G,H,I⟩:=BD r.out hy
  have hb:=s.out i
  have hx:=d.out y (List.mem_of_getElem? hy)
  have f:Aside (Aa (l.take (i+1))=Aa (l.take i)+y.len):=BR hy
  obtain ⟨z,p⟩:=Aq (Aa (l.take i))
  rw[p] at hb f⊢
  obtain ⟨M,O,P,Q⟩:=y
  simp only at r1 G H I hx f
  clear hy p
  go_wp2
  go_roundg (n-(i+1))
  case measure=>have:=A.out;omega
  refine ⟨i+1,by go_num,by rw[f.out],by omega,rfl,Ap _ _⟩
 have a: ¬(i:Int)<n:=by omega
 obtain rfl:i=n:=by omega
 rw[List.take_of_length_le (by rw[o.out];exact Nat.le_refl _)]
 go_wp2
 go_ret
 exact ⟨rfl,c⟩
theorem CV(y:Au)(b:Nat):An (Sl.block b AM (Cx y)) (.slice (some ⟨b,0,none⟩) 1 1) [y]:=by
 refine ⟨rfl,_,_,rfl,Nat.le_refl _,by omega,fun j u c=>⟨b,0,rfl,?_⟩⟩
 have a:(Cx y)[j]?=some u:=by simpa[Bb] using c
 haveI:At (Cx y) j u:=⟨a⟩
 rw[Nat.zero_add]
 infer_instance
theorem Tw(x:Au)(a b:Int)(F:Ac)(w:World)(hs:Sat F w)(h1: -1099511627776≤x.pos∧x.pos≤1099511627776)(p: -1099511627776≤a∧a≤1099511627776)(q: -1099511627776≤b∧b≤1099511627776):
 Calls Tryz.prog 95 #[o7 x,.int .i64 a,.int .i64 b] w fun e o=> ∃v G,e= .returned v∧An G v (Go.Tr.part x a b)∧Sat (G*F) o:=by
 obtain ⟨c,d,f,g⟩:=x
 unfold Go.Tr.part
 simp only at h1⊢
 haveI:=hs.i
 by_cases j:b≤a
 ·rw[if_pos j]
  go_enter Tryz.func95,Tryz.ntmps95
  go_wp2
  go_ret
  exact ⟨_,1,rfl,Al.nil 4 _,by rw[Aw];exact Zm _⟩
 rw[if_neg j]
 have l:a<b:=by omega
 by_cases m:0<a∨b<f
 ·rw [if_pos m]
  by_cases hl:g=0
  ·subst hl
   rw[if_neg (by simp)]
   rcases Int.lt_or_le 0 a with ha|ha
   ·go_enter Tryz.func95,Tryz.ntmps95
    go_wp2
    go_ret
    first|exact ⟨_,Sl.block (w.heap.size+1) AM [.int .i64 (c),.int .i64 (d+a),.int .i64 (b-a),.int .i64 (0)],rfl,CV ⟨c,d+a,b-a,0⟩ _,Ap _ F⟩|exact ⟨_,rfl,Sl.block (w.heap.size+1) AM [.int .i64 (c),.int .i64 (d+a),.int .i64 (b-a),.int .i64 (0)],CV ⟨c,d+a,b-a,0⟩ _,Ap _ F⟩
   have hb:b<f:=by omega
   have k: ¬0<a:=by omega
   go_enter Tryz.func95,Tryz.ntmps95
   go_wp2
   go_ret
   first|exact ⟨_,Sl.block (w.heap.size+1) AM [.int .i64 (c),.int .i64 (d+a),.int .i64 (b-a),.int .i64 (0)],rfl,CV ⟨c,d+a,b-a,0⟩ _,Ap _ F⟩|exact ⟨_,rfl,Sl.block (w.heap.size+1) AM [.int .i64 (c),.int .i64 (d+a),.int .i64 (b-a),.int .i64 (0)],CV ⟨c,d+a,b-a,0⟩ _,Ap _ F⟩
  have n:(g !=0)=true:=by simpa using hl
  rw[if_pos hl]
  rcases Int.lt_or_le 0 a with ha|ha
  ·go_enter Tryz.func95,Tryz.ntmps95
   go_wp2
   go_ret
   first|exact ⟨_,Sl.block (w.heap.size+1) AM [.int .i64 (c),.int .i64 (d+a),.int .i64 (b-a),.int .i64 (-1)],rfl,CV ⟨c,d+a,b-a,-1⟩ _,Ap _ F⟩|exact ⟨_,rfl,Sl.block (w.heap.size+1) AM [.int .i64 (c),.int .i64 (d+a),.int .i64 (b-a),.int .i64 (-1)],CV ⟨c,d+a,b-a,-1⟩ _,Ap _ F⟩
  have hb:b<f:=by omega
  have k: ¬0<a:=by omega
  go_enter Tryz.func95,Tryz.ntmps95
  go_wp2
  go_ret
  first|exact ⟨_,Sl.block (w.heap.size+1) AM [.int .i64 (c),.int .i64 (d+a),.int .i64 (b-a),.int .i64 (-1)],rfl,CV ⟨c,d+a,b-a,-1⟩ _,Ap _ F⟩|exact ⟨_,rfl,Sl.block (w.heap.size+1) AM [.int .i64 (c),.int .i64 (d+a),.int .i64 (b-a),.int .i64 (-1)],CV ⟨c,d+a,b-a,-1⟩ _,Ap _ F⟩
 rw[if_neg m]
 have ha: ¬0<a:=by omega
 have hb: ¬b<f:=by omega
 go_enter Tryz.func95,Tryz.ntmps95
 go_wp2
 go_ret
 first|exact ⟨_,Sl.block (w.heap.size+1) AM [.int .i64 (c),.int .i64 (d),.int .i64 (f),.int .i64 (g)],rfl,CV ⟨c,d,f,g⟩ _,Ap _ F⟩|exact ⟨_,rfl,Sl.block (w.heap.size+1) AM [.int .i64 (c),.int .i64 (d),.int .i64 (f),.int .i64 (g)],CV ⟨c,d,f,g⟩ _,Ap _ F⟩
theorem E2(l:List Au):Bh l=(l.all Ah&&decide (Aa l≤1048576)):=rfl
theorem Lf{l:List Au}{i:Nat}{y:Au}(hy:l[i]?=some y)(h:Ah y=false):Bh l=false:=by
 rw[E2]
 have:l.all Ah=false:=by
  rw[List.all_eq_false]
  exact ⟨y,List.mem_of_getElem? hy,by simp[h]⟩
 rw[this]
 rfl
theorem WA(y:Au):may ⟨true,[y],[]⟩=Ah y:=by
 unfold may
 cases h:Ah y with
 |false=>simp[h]
 | true =>
  have:=Ca h
  simp[h,Aa,B7,Be]
  omega
theorem Gj(l : List Au)(v : Value)(B F : Ac)(w : World)(I : An B v l)(hs : Sat (B * F) w)(hl : l.length ≤ 4294967296) :
 Calls Tryz.prog 79 #[v] w fun e P=>e= .returned (.bool (Bh l))∧Sat (B*F) P:=by
 obtain ⟨a0,c0,rfl,a2,a3⟩:=I.v
 have Y:Aside (An B (.slice a0 l.length c0) l):=I
 obtain ⟨n,M⟩:=Aq l.length
 rw[M] at hl⊢
 have Q:Aside (l.length=n):=M
 obtain ⟨s,c⟩:=Aq (Bh l)
 rw[c]
 have H:Aside (Bh l=s):=c
 haveI:=hs.i
 clear I M c
 go_enter Tryz.func79,Tryz.ntmps79
 go_wp2
 go_loopg [3,8] n (fun g t3 t8 wr=> ∃(i:Nat),t8= .int .i64 i∧t3= .int .i64 (Aa (l.take i))∧i≤n∧Aside (g=n-i)∧Aside ((∀x∈l.take i,Ah x=true)∧0≤Aa (l.take i)∧Aa (l.take i)≤1048576)∧Sat (B*F) wr)
 case atStart=>exact ⟨0,rfl,by simp[Aa],by omega,rfl,⟨by simp,by simp[Aa],by simp[Aa]⟩,hs⟩
 obtain ⟨i,rfl,rfl,hi,A,t,o⟩:=hrel
 haveI:=o.i
 clear hs
 by_cases L:i<n
 · have m : (i : Int) < n := by omega
   obtain ⟨y,hy⟩: ∃y,l[i]?=some y:=⟨_,List.getElem?_eq_getElem (by rw[Q.out];exact L)⟩
   obtain ⟨b,q,rfl,r1,T,U,V⟩:=BD Y.out hy
   have k:Aside (Aa (l.take (i+1))=Aa (l.take i)+y.len∧l.take (i+1)=l.take i++ [y]):=⟨BR hy,A9 hy⟩
   have a: ∀(G:Ac)(w:World)(b:Nat),Sat (Sl.block b AM (Cx y)*G) w→Calls Tryz.prog 133 #[.agg #[.bool true,.slice (some ⟨b,0,none⟩) 1 1,.slice none 0 0]] w fun e P=>e= .returned (.bool (Ah y))∧Sat (Sl.block b AM (Cx y)*G) P:=fun G w b h=>by
    rw[←WA]
    refine Lg ⟨true,[y],[]⟩ _ _ G w ⟨_,_,rfl,?_,Al.nil 4 _⟩ h (by simp) (by simp)
    refine ⟨rfl,_,_,rfl,Nat.le_refl _,by omega,fun j u hj=>⟨b,0,rfl,?_⟩⟩
    have K:(Cx y)[j]?=some u:=by simpa[Bb] using hj
    haveI:At (Cx y) j u:=⟨K⟩
    rw[Nat.zero_add]
    infer_instance
   have D:Aside (Ah y=false→s=false):=fun h=>H.out.symm.trans (Lf hy h)
   have J:=t.out.2
   obtain ⟨z,r⟩:=Aq (Aa (l.take i))
   rw[r] at J k⊢
   cases d:Ah y with
   | false =>
     rw[d] at a
     have c:=D.out d
     subst c
     obtain ⟨y1,y2,X,y4⟩:=y
     unfold Cx at a
     simp only at r1 T U V a
     clear hy r d
     go_wp2_with fail
     with_reducible refine Calls.mono (a _ _ _ (Af (Sl.block _ AM _))) ?_
     rintro e W ⟨rfl,p⟩
     haveI:=p.i
     go_wp2
     go_ret
     exact ⟨rfl,Ap _ _⟩
   | true =>
     rw[d] at a
     have O:=Ca d
     have Z:Aside (Ah y=true):=d
     obtain ⟨y1,y2,X,y4⟩:=y
     unfold Cx at a
     simp only at r1 T U V a O k
     clear d
     by_cases R:1048576<z+X
     ·have c : s = false := by
       rw[←H.out]
       rw[E2]
       by_cases f:l.all Ah=true
       ·have h1:Aa l=Aa (l.take (i+1))+Aa (l.drop (i+1)):=by rw[←Ao,List.take_append_drop]
        have h2:0≤Aa (l.drop (i+1)):=by
         have:=(C6 (l:=l.drop (i+1)) (fun x hx=>by
          have:=Ca (List.all_eq_true.1 f x (List.mem_of_mem_drop hx))
          omega) (l.drop (i+1)).length).1
         rwa [List.take_of_length_le (Nat.le_refl _)] at this
        have h3:=k.out.1
        rw[decide_eq_false (by omega),Bool.and_false]
       rw[Bool.not_eq_true] at f
       rw[f]
       rfl
      subst c
      clear hy r
      go_wp2_with fail
      with_reducible refine Calls.mono (a _ _ _ (Af (Sl.block _ AM _))) ?_
      rintro e W ⟨rfl,p⟩
      haveI:=p.i
      go_wp2
      go_ret
      exact ⟨rfl,Ap _ _⟩
     clear hy r
     go_wp2_with fail
     with_reducible refine Calls.mono (a _ _ _ (Af (Sl.block _ AM _))) ?_
     rintro e W ⟨rfl,p⟩
     haveI:=p.i
     go_wp2
     go_roundg (n-(i+1))
     case measure=>have:=A.out;omega
     refine ⟨i+1,by go_num,by rw[k.out.1],by omega,rfl,⟨?_,by rw[k.out.1];omega,by rw[k.out.1];omega⟩,Ap _ _⟩
     rw[k.out.2]
     intro x hx
     rcases List.mem_append.1 hx with hx|hx
     ·exact t.out.1 x hx
     simp at hx;subst hx;exact Z.out
 have m: ¬(i:Int)<n:=by omega
 obtain rfl:i=n:=by omega
 have c:s=true:=by
  rw[←H.out]
  have h:=t.out
  rw[List.take_of_length_le (by rw[Q.out];exact Nat.le_refl _)] at h
  rw[E2]
  rw[List.all_eq_true.2 h.1,decide_eq_true h.2.2]
  rfl
 subst c
 go_wp2
 go_ret
 exact ⟨rfl,o⟩
end Go.Proofs.YtfhbmblbidcmmaaGreat
namespace Go.Proofs.YtfhbmblbidcmmaaGreat
open Go.RowKit Go.Sl Go.Dk
open Go.QK (A8)
attribute [local go_sem] Lb Va Vw UK
def Ck.forget(s:Ck)(no:Int):Bool×Ck:=if D1 s.its no then (true, { s with its:=Gc s.its no,CO:=Gd no s.CO }) else (false,s)
theorem UR(C D:Nat)(s:Ck)(m:Nat)(no:Int)(F:Ac)(w:World)(hs:Sat (AN C D s*F) w)(ok:Bf m s):
 Calls Tryz.prog 135 #[.pointer (some ⟨C,0,none⟩),.int .i64 no] w fun e q=>e= .returned (.bool (s.forget no).1)∧Sat (AN C D (s.forget no).2*F) q:=by
 obtain ⟨L,PM,ps,hp,hs⟩:=Sat.Cu hs
 have Ef:=fun F w h=>bU L s.cap s.its no F w h ok.LC
 unfold Ck.forget
 unfold BI at hs
 haveI:=hs.i
 cases c:D1 s.its no with
 | true =>
  rw[c,if_pos rfl] at Ef
  rw[if_pos rfl]
  obtain ⟨b,hb,hl,h0,h1⟩:=ok.key (Ej c)
  have f:=FK Ef
  have a:Aside (BP ps=s.CO∧BK no s.CO=some b):=⟨hp,hb⟩
  clear Ef hl h0 h1 c
  rcases Hk ps no with ⟨l1,p,l2,rfl,rfl,g⟩|j
  ·obtain ⟨_,_,_,n,o⟩:=Hl (l2:=l2) g
   have l:Aside (BP (l1++l2)=Gd p.key s.CO∧FG p.key ((l1++p::l2).map JE)=(l1++l2).map JE):=⟨by rw[←a.out.1];exact n.symm,o⟩
   clear n o hp hb
   go_enter Tryz.func135,Tryz.ntmps135
   go_wp2_with fail
   refine De (f.out _ _ (Af (C8 L s.cap s.its))) fun r k _=>?_
   clear hs
   go_wp2
   go_ret
   refine ⟨rfl,?_⟩
   refine Sat.AZ (L:=L) (PM:=PM) (ps:=l1++l2) l.out.1 ?_
   refine A6 (C:=rw TB 1 p.v (A1 p.b)) ?_
   rw[l.out.2,CE,show AV (p::l2)=rw TB 1 p.v (A1 p.b)*AV l2 from rfl]
   show _=coreC C L D PM s*(C8 L s.cap (Gc s.its p.key)*(B6 D s.d*(mp A8 PM ((l1++l2).map JE)*AV (l1++l2))))*F*rw TB 1 p.v (A1 p.b)
   rw[CE]
   ac_rfl
  have:=a.out.2
  rw[←a.out.1,(JL j).1] at this
  cases this
 | false =>
  rw[c,if_neg (by simp)] at Ef
  rw[if_neg (by simp)]
  have a:=FK hp
  clear c hp
  go_enter Tryz.func135,Tryz.ntmps135
  go_wp2_with fail
  refine De (Ef _ _ (Af (C8 L s.cap s.its))) fun r k _=>?_
  go_wp2
  go_ret
  refine ⟨rfl,Sat.AZ (L:=L) (PM:=PM) a.out ?_⟩
  unfold BI
  exact Av (by ac_rfl)
end Go.Proofs.YtfhbmblbidcmmaaGreat
namespace Go.Proofs.YtfhbmblbidcmmaaGreat
open Go.RowKit Go.Sl Go.Dk Go.Tr
def Dw(l:List Int)(c:Ck):Ck:=l.foldl (fun c no=>(c.forget no).2) c
open Go.QK (A8)
theorem Xs{m:Nat}{s:Ck}(hw:Bf m s)(no:Int):Bf m (s.forget no).2:=by
 unfold Ck.forget
 by_cases a:D1 s.its no=true
 ·simp only[a,if_true]
  have c:=WE hw.LC (Ej a)
  refine ⟨Z7 hw.LC no,hw.nd.sublist ((Lt _ _).map _),?_,?_,fun p hp=>hw.As p ((Lt _ _).subset hp),hw.cap,?_,hw.dk,hw.nm,hw.reads⟩
  ·intro k
   show Bo (Gc s.its no) k=(BK k (Gd no s.CO)).isSome
   rw[FP hw.nd]
   by_cases b:k=no
   ·rw[if_pos b]
    subst b
    show _=false
    rw[Bool.eq_false_iff]
    intro h
    exact (Lp.1 (Bj.1 h)).2 rfl
   rw[if_neg b,←hw.same k,Bool.eq_iff_iff,Bj,Bj,Lp]
   simp[b]
  ·show (Gd no s.CO).length=(Gc s.its no).length
   have:=T1 (k:=no) (l:=s.CO) (by rw[←hw.same];exact Ej a)
   have:=hw.len
   omega
  have:=hw.most
  show ((Gc s.its no).length:Int)≤s.cap
  omega
 rw[if_neg a]
 exact hw
theorem NL{m:Nat}(l:List Int){s:Ck}(hw:Bf m s):Bf m (Dw l s):=by
 induction l generalizing s with
 |nil=>exact hw
 |cons a l b=>exact b (Xs hw a)
