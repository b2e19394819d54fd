/- treeFails holds for every input. No condition. (part 25) -/
import Derived.Test.YtfhbmblbidcmmaaGreatYa22
import Derived.Test.YtfhbmblbidcmmaaGreatYa23
import Derived.Test.YtfhbmblbidcmmaaGreatYa24
set_option linter.all false
set_option maxRecDepth 100000
set_option maxHeartbeats 3200000
namespace Go.Tr
theorem OE{α:Type}{f:α→List Value}{s:Nat}(a: ∀x,(f x).length=s): ∀(l:List α)(i:Nat),(l.flatMap f).drop (i*s)=(l.drop i).flatMap f
 | [],i=>by simp
 |y::l,0=>by simp
 | y :: l, i + 1 => by
  rw[List.flatMap_cons,List.drop_succ_cons,Nat.add_mul,Nat.one_mul,Nat.add_comm (i*s) s,←List.drop_drop,List.drop_left' (a y)]
  exact OE a l i
theorem OG{α:Type}{f:α→List Value}{s:Nat}(a: ∀x,(f x).length=s): ∀(l:List α)(i:Nat),(l.flatMap f).take (i*s)=(l.take i).flatMap f
 | [],i=>by simp
 |y::l,0=>by simp
 | y :: l, i + 1 => by
  rw[List.flatMap_cons,List.take_succ_cons,List.flatMap_cons,Nat.add_mul,Nat.one_mul,Nat.add_comm (i*s) s,List.take_append,a y,Nat.add_sub_cancel_left,List.take_of_length_le (by rw[a];omega),OG a l i]
theorem U4{α:Type}(l:List α){i j:Nat}(h:j≤l.length):(sub l i j).length=j-i:=by
 unfold sub
 rw[List.length_take,List.length_drop]
 omega
theorem QB{α:Type}{f:α→List Value}{s:Nat}(a: ∀x,(f x).length=s)(l:List α)(i j:Nat):((l.flatMap f).drop (i*s)).take ((j-i)*s)=(sub l i j).flatMap f:=by
 rw[OE a,OG a]
 rfl
end Go.Tr
namespace Go.Proofs.YtfhbmblbidcmmaaGreat
open Go.RowKit Go.Sl Go.Dk Go.Tr
theorem Ka{B:Ac}{a:Option Addr}{c:Nat}{l:List As}(h:Aq B (.slice a l.length c) l){i j:Nat}(d:i≤j)(b:j≤l.length):Aq B (.slice (BP a c i 4) (j-i) (c-i)) (sub l i j):=by
 have:=Al.cut h i j d b
 unfold Aq
 rw[U4 l b,AQ,←QB (s:=4) (fun _=>rfl)]
 exact this
theorem Hz{B:Ac}{a:Option Addr}{c:Nat}{l:List Kd}(h:B1 B (.slice a l.length c) l){i j:Nat}(d:i≤j)(b:j≤l.length):B1 B (.slice (BP a c i 4) (j-i) (c-i)) (sub l i j):=by
 have:=Al.cut h i j d b
 unfold B1
 rw[U4 l b,Ip,←QB (s:=4) (fun _=>rfl)]
 exact this
theorem OA(w:World):Calls Tryz.prog 158 #[.int .i64 0] w fun e a=>e= .returned (.tuple #[])∧w=a:=by
 go_enter Tryz.func158,Tryz.ntmps158
 go_wp2
 go_end0
 exact ⟨rfl,rfl⟩
theorem Iv(e:Int)(h:e≠0)(w:World):Calls Tryz.prog 158 #[.int .i64 e] w fun a b=>a= .panicked (D2 e)∧w=b:=by
 have c:(e==0)=false:=by simp[h]
 have d:(e !=0)=true:=by simp[h]
 go_enter Tryz.func158,Tryz.ntmps158
 go_wp2
 exact ⟨rfl,rfl,rfl⟩
theorem WX(n:Nd)(v:Value)(B F:Ac)(w:World)(j:AN B v n)(hs:Sat (B*F) w)(k:n.Ao.length≤4294967296)(l:n.kids.length≤4294967296):
 Calls Tryz.prog 130 #[v] w fun e m=>e= .returned (.int .i64 (many n))∧Sat (B*F) m:=by
 obtain ⟨s,t,rfl,a,b⟩:=j
 obtain ⟨o,q,rfl,c,d⟩:=a.v
 obtain ⟨p,r,rfl,f,g⟩:=b.v
 haveI:=hs.i
 clear a b
 go_enter Tryz.func130,Tryz.ntmps130
 go_wp2
 go_ret
 refine ⟨?_,Av B F⟩
 simp[many]
abbrev CG:TypeId:=175
def AH(x:BH):Value:= .agg #[.int .i64 x.DK.Ay,.int .i64 x.DK.bytes,.int .i64 x.DK.lines,.int .i64 x.DK.A7,.int .i64 x.An]
def n0(k:Kd):Value:= .agg #[.int .i64 k.Ay,.int .i64 k.bytes,.int .i64 k.lines,.int .i64 k.A7]
theorem KM(F:Ac)(w:World)(hs:Sat F w):Calls Tryz.prog 143 #[] w fun e a=>e= .returned (AH Co)∧Sat F a:=by
 haveI:=hs.i
 go_enter Tryz.func143,Tryz.ntmps143
 go_wp2
 go_returns
 exact ⟨rfl,WL F⟩
theorem NS(n:Nd)(i j:Nat)(v:Value)(B F:Ac)(w:World)(H:AN B v n)(hs:Sat (B*F) w)(b:i≤j)(g:j≤if n.leaf then n.Ao.length else n.kids.length):
 Calls Tryz.prog 166 #[v,.int .i64 i,.int .i64 j] w fun e J=> ∃v',e= .returned v'∧AN B v' (Cq n i j)∧Sat (B*F) J:=by
 obtain ⟨i0,E⟩:=FK
 obtain ⟨K,u⟩:=MH
 obtain ⟨L,M,rfl,o,p⟩:=H
 obtain ⟨q,l,rfl,x,y⟩:=o.v
 obtain ⟨s,m,rfl,D,G⟩:=p.v
 obtain ⟨I,d⟩: ∃r,n.leaf=r:=⟨_,rfl⟩
 unfold Cq
 rw[d] at g⊢
 haveI:=hs.i
 cases I with
 | true =>
  simp only[if_true] at g⊢
  have f:Aside (Aq B (.slice (BP q l i 4) (j-i) (l-i)) (sub n.Ao i j)):=Ka o b g
  have t:=MA (P:=Tryz.prog) E (a:=q) (n:=n.Ao.length) (c:=l) i j b (by omega)
  clear o p d
  obtain ⟨z,k⟩: ∃z,BP q l i 4=z:=⟨_,rfl⟩
  rw[k] at t f
  clear k
  go_enter Tryz.func166,Tryz.ntmps166
  go_wp2
  go_returns
  exact ⟨_,rfl,⟨_,_,rfl,f.out,Al.nil 4 _⟩,Av B F⟩
 | false =>
  simp only[Bool.false_eq_true,if_false] at g⊢
  have f:Aside (B1 B (.slice (BP s m i 4) (j-i) (m-i)) (sub n.kids i j)):=Hz p b g
  have t:=MA (P:=Tryz.prog) u (a:=s) (n:=n.kids.length) (c:=m) i j b (by omega)
  clear o p d
  obtain ⟨z,k⟩: ∃z,BP s m i 4=z:=⟨_,rfl⟩
  rw[k] at t f
  clear k
  go_enter Tryz.func166,Tryz.ntmps166
  go_wp2
  go_returns
  exact ⟨_,rfl,⟨_,_,rfl,Al.nil 4 _,f.out⟩,Av B F⟩
end Go.Proofs.YtfhbmblbidcmmaaGreat
namespace Go.Sl
theorem Zo{A R:Ac}{b e s:Nat}{w:World}[BG A w][Take A (Sl.block b e []) R]:Sat (rw e s (.slice (some ⟨b,0,none⟩) 0 0) []*R) w:=
 Sat.Fg (sp:= []) (by simp) (by simp) (Nat.le_refl _) (by simp[maxLen]) (Ae (Sl.block b e []))
end Go.Sl
namespace Go.Proofs.YtfhbmblbidcmmaaGreat
open Go.RowKit Go.Sl Go.Dk Go.Tr
theorem Ky(l:List As): ∀u∈AQ l,u.oneCell'=true:=by
 intro u a
 unfold AQ CZ at a
 rw[List.mem_flatMap] at a
 obtain ⟨x,_,a⟩:=a
 simp at a
 rcases a with rfl|rfl|rfl|rfl<;>rfl
theorem Uh(l:List Kd): ∀u∈Ip l,u.oneCell'=true:=by
 intro u a
 unfold Ip QM at a
 rw[List.mem_flatMap] at a
 obtain ⟨x,_,a⟩:=a
 simp at a
 rcases a with rfl|rfl|rfl|rfl<;>rfl
theorem EZ{a:Option Addr}{n c:Nat}{l:List As}{F:Ac}{w:World}(hs:Sat (rw A9 4 (.slice a n c) (AQ l)*F) w)(b:n=l.length):Aq (rw A9 4 (.slice a n c) (AQ l)) (.slice a n c) l:=by
 subst b
 exact Al.rw hs ⟨a,c,rfl⟩
theorem MD(a b:Nd)(va vb:Value)(B F:Ac)(w:World)(hA:AN B va a)(hB:AN B vb b)(hs:Sat (B*F) w)(h1:a.Ao.length≤65536)(h2:b.Ao.length≤65536)(h3:a.kids.length≤65536)(h4:b.kids.length≤65536):
 Calls Tryz.prog 169 #[va,vb] w fun e g=> ∃v' G,e= .returned v'∧AN G v' (both a b)∧Sat (G*(B*F)) g:=by
 obtain ⟨i0,E⟩:=FK
 obtain ⟨i1,M⟩:=MH
 obtain ⟨vE,vK,rfl,u,x⟩:=hA
 obtain ⟨j,o,rfl,au,av⟩:=u.v
 obtain ⟨k,p,rfl,aw,ax⟩:=x.v
 obtain ⟨uE,uK,rfl,s,t⟩:=hB
 obtain ⟨l,q,rfl,ai,aj⟩:=s.v
 obtain ⟨m,r,rfl,ak,al⟩:=t.v
 have R:Aside (Aq B (.slice j a.Ao.length o) a.Ao):=u
 have T:Aside (B1 B (.slice k a.kids.length p) a.kids):=x
 have O:Aside (Aq B (.slice l b.Ao.length q) b.Ao):=s
 have Q:Aside (B1 B (.slice m b.kids.length r) b.kids):=t
 obtain ⟨c,y⟩: ∃n,a.Ao.length=n:=⟨_,rfl⟩
 obtain ⟨f,z⟩: ∃n,b.Ao.length=n:=⟨_,rfl⟩
 obtain ⟨d,D⟩: ∃n,a.kids.length=n:=⟨_,rfl⟩
 obtain ⟨n4,H⟩: ∃n,b.kids.length=n:=⟨_,rfl⟩
 have U:Aside (c+f=(a.Ao++b.Ao).length∧d+n4=(a.kids++b.kids).length):=⟨by simp[y,z],by simp[D,H]⟩
 have I:=fun(F:Ac)(w:World)(h:Sat (B*F) w)=>R.out.src (P:=Tryz.prog) (Ky a.Ao) h
 have J:=fun(F:Ac)(w:World)(h:Sat (B*F) w)=>T.out.src (P:=Tryz.prog) (Uh a.kids) h
 have K:=fun(F:Ac)(w:World)(h:Sat (B*F) w)=>O.out.src (P:=Tryz.prog) (Ky b.Ao) h
 have L:=fun(F:Ac)(w:World)(h:Sat (B*F) w)=>Q.out.src (P:=Tryz.prog) (Uh b.kids) h
 rw[y] at I h1⊢
 rw[z] at K h2⊢
 rw[D] at J h3⊢
 rw[H] at L h4⊢
 have SE:Aside (∀(F:Ac)(w:World),Sat (B*F) w→Src Tryz.prog 4 w (.slice j c o) c (AQ a.Ao)):=I
 have SK:Aside (∀(F:Ac)(w:World),Sat (B*F) w→Src Tryz.prog 4 w (.slice k d p) d (Ip a.kids)):=J
 have TE:Aside (∀(F:Ac)(w:World),Sat (B*F) w→Src Tryz.prog 4 w (.slice l f q) f (AQ b.Ao)):=K
 have TK:Aside (∀(F:Ac)(w:World),Sat (B*F) w→Src Tryz.prog 4 w (.slice m n4 r) n4 (Ip b.kids)):=L
 haveI:=hs.i
 clear u x s t y z D H I J K L R T O Q
 go_enter Tryz.func169,Tryz.ntmps169
 go_upto_region 1 with (fail)
 go_region_held3 (fun g=>g.cell? ⟨w.heap.size,0,none⟩=some (.bool a.leaf)∧g.cell? ⟨w.heap.size,1,none⟩=some (.slice j c o)∧g.cell? ⟨w.heap.size,2,none⟩=some (.slice k d p)∧g.cell? ⟨w.heap.size+1,1,none⟩=some (.slice l f q)∧g.cell? ⟨w.heap.size+1,2,none⟩=some (.slice m n4 r)) (exact ⟨Aa _ _ _,Aa _ _ _,Aa _ _ _,Aa _ _ _,Aa _ _ _⟩) (first
  |(refine A1 E rfl (.tmp 7) (.tmp 9) rfl rfl rfl Zo (SE.out _ _ (Ae B)) (by unfold maxLen;omega) (by omega) ?_;intro a1 c1 w1 Y z1;clear z1;rw[Nat.zero_add,List.nil_append] at Y;rw[Nat.zero_add];haveI:=Y.i)
  |(refine A1 E rfl (.tmp 10) (.tmp 12) rfl rfl rfl (Ae (rw A9 4 (.slice a1 c c1) (AQ a.Ao))) (TE.out _ _ (Ae B)) (by unfold maxLen;omega) (by omega) ?_;intro V c2 w2 Z z2;clear z2;haveI:=Z.i)
  |(refine A1 M rfl (.tmp 14) (.tmp 16) rfl rfl rfl Zo (SK.out _ _ (Ae B)) (by unfold maxLen;omega) (by omega) ?_;intro a3 c3 w3 q3 z3;clear z3;rw[Nat.zero_add,List.nil_append] at q3;rw[Nat.zero_add];haveI:=q3.i)
  |(refine A1 M rfl (.tmp 17) (.tmp 19) rfl rfl rfl (Ae (rw Oa 4 (.slice a3 d c3) (Ip a.kids))) (TK.out _ _ (Ae B)) (by unfold maxLen;omega) (by omega) ?_;intro W X w4 q4 z4;clear z4;haveI:=q4.i))
 all_goals
  go_wp2
  go_returns
  have e1:AQ a.Ao++AQ b.Ao=AQ (both a b).Ao:=by simp[AQ,both]
  have e2:Ip a.kids++Ip b.kids=Ip (both a b).kids:=by simp[Ip,both]
  have r1:=Al.rw Z ⟨V,c2,rfl⟩ (n:=c+f)
  have r2:=Al.rw q4 ⟨W,X,rfl⟩ (n:=d+n4)
  refine ⟨_,rw A9 4 (.slice V (c+f) c2) (AQ a.Ao++AQ b.Ao)*rw Oa 4 (.slice W (d+n4) X) (Ip a.kids++Ip b.kids),rfl,⟨_,_,rfl,Al.left ?_,Al.right ?_⟩,(Dv _ _ _ _).eq (Ar _ _ _).symm⟩
  ·rw[←e1,show (both a b).Ao.length=c+f from U.out.1.symm]
   exact r1
  rw[←e2,show (both a b).kids.length=d+n4 from U.out.2.symm]
  exact r2
end Go.Proofs.YtfhbmblbidcmmaaGreat
namespace Go.Tr
theorem CN{l:List As}(hm: ∀x∈l,0≤x.len∧x.len≤1048576): ∀i:Nat,0≤Ab (l.take i)∧Ab (l.take i)≤i*1048576:=by
 intro i
 induction i with
 |zero=>simp[Ab]
 | succ i a =>
  cases hx:l[i]? with
  | none =>
   have:l.take (i+1)=l.take i:=by
    have hl:l.length≤i:=by simpa using hx
    rw[List.take_of_length_le hl,List.take_of_length_le (by omega)]
   rw[this]
   omega
  | some x =>
   have:=hm x (List.mem_of_getElem? hx)
   rw[List.take_add_one,hx]
   simp only[Option.toList,Ak]
   have:Ab [x]=x.len:=by simp[Ab]
   omega
end Go.Tr
namespace Go.Proofs.YtfhbmblbidcmmaaGreat
open Go.RowKit Go.Sl Go.Dk Go.Tr
theorem Js(l:List As)(v:Value)(B F:Ac)(w:World)(j:Aq B v l)(hs:Sat (B*F) w)(hl:l.length≤4294967296)(hm: ∀x∈l,0≤x.len∧x.len≤1048576):
 Calls Tryz.prog 92 #[v] w fun e M=>e= .returned (.int .i64 (Ab l))∧Sat (B*F) M:=by
 obtain ⟨t,u,rfl,D,G⟩:=j.v
 have r:Aside (Aq B (.slice t l.length u) l):=j
 have s:Aside (∀i:Nat,0≤Ab (l.take i)∧Ab (l.take i)≤i*1048576):=CN hm
 have d:Aside (∀x∈l,0≤x.len∧x.len≤1048576):=hm
 obtain ⟨n,m⟩: ∃n,l.length=n:=⟨_,rfl⟩
 rw[m] at hl⊢
 have o:Aside (l.length=n):=m
 haveI:=hs.i
 clear j hm m
 go_enter Tryz.func92,Tryz.ntmps92
 go_wp2
 go_loopg [3,8] n (fun g K L wr=> ∃(i:Nat),L= .int .i64 i∧K= .int .i64 (Ab (l.take i))∧i≤n∧Aside (g=n-i)∧Sat (B*F) wr)
 case atStart=>exact ⟨0,rfl,by simp[Ab],by omega,rfl,hs⟩
 obtain ⟨i,rfl,rfl,hi,A,c⟩:=hrel
 haveI:=c.i
 clear hs
 by_cases k:i<n
 ·have a:(i:Int)<n:=by omega
  obtain ⟨y,hy⟩: ∃y,l[i]?=some y:=⟨_,List.getElem?_eq_getElem (by rw[o.out];exact k)⟩
  obtain ⟨b,q,rfl,r1,H,I,J⟩:=BW r.out hy
  have hb:=s.out i
  have hx:=d.out y (List.mem_of_getElem? hy)
  have f:Aside (Ab (l.take (i+1))=Ab (l.take i)+y.len):=BX hy
  obtain ⟨z,p⟩: ∃z,Ab (l.take i)=z:=⟨_,rfl⟩
  rw[p] at hb f⊢
  obtain ⟨O,P,Q,R⟩:=y
  simp only at r1 H I J hx f
  clear hy p
  go_wp2
  go_roundg (n-(i+1))
  case measure=>have:=A.out;omega
  refine ⟨i+1,by go_num,by rw[f.out],by omega,rfl,Av _ _⟩
 have a: ¬(i:Int)<n:=by omega
 obtain rfl:i=n:=by omega
 rw[List.take_of_length_le (by rw[o.out];exact Nat.le_refl _)]
 go_wp2
 go_ret
 exact ⟨rfl,c⟩
theorem CL(y:As)(b:Nat):Aq (Sl.block b A9 (CZ y)) (.slice (some ⟨b,0,none⟩) 1 1) [y]:=by
 refine ⟨rfl,_,_,rfl,Nat.le_refl _,by omega,fun j u c=>⟨b,0,rfl,?_⟩⟩
 have a:(CZ y)[j]?=some u:=by simpa[AQ] using c
 haveI:At (CZ y) j u:=⟨a⟩
 rw[Nat.zero_add]
 infer_instance
theorem KQ(x:As)(a b:Int)(F:Ac)(w:World)(hs:Sat F w)(n: -1099511627776≤x.pos∧x.pos≤1099511627776)(q: -1099511627776≤a∧a≤1099511627776)(r: -1099511627776≤b∧b≤1099511627776):
 Calls Tryz.prog 95 #[UK x,.int .i64 a,.int .i64 b] w fun e p=> ∃v G,e= .returned v∧Aq G v (Go.Tr.part x a b)∧Sat (G*F) p:=by
 obtain ⟨c,d,f,g⟩:=x
 unfold Go.Tr.part
 simp only at n⊢
 haveI:=hs.i
 by_cases j:b≤a
 ·rw[if_pos j]
  go_enter Tryz.func95,Tryz.ntmps95
  go_wp2
  go_ret
  exact ⟨_,1,rfl,Al.nil 4 _,by rw[Am];exact WL _⟩
 rw[if_neg j]
 have l:a<b:=by omega
 by_cases m:0<a∨b<f
 ·rw [if_pos m]
  by_cases hl:g=0
  ·subst hl
   rw[if_neg (by simp)]
   rcases Int.lt_or_le 0 a with ha|ha
   ·go_enter Tryz.func95,Tryz.ntmps95
    go_wp2
    go_ret
    first|exact ⟨_,Sl.block (w.heap.size+1) A9 [.int .i64 (c),.int .i64 (d+a),.int .i64 (b-a),.int .i64 (0)],rfl,CL ⟨c,d+a,b-a,0⟩ _,Av _ F⟩|exact ⟨_,rfl,Sl.block (w.heap.size+1) A9 [.int .i64 (c),.int .i64 (d+a),.int .i64 (b-a),.int .i64 (0)],CL ⟨c,d+a,b-a,0⟩ _,Av _ F⟩
   have hb:b<f:=by omega
   have k: ¬0<a:=by omega
   go_enter Tryz.func95,Tryz.ntmps95
   go_wp2
   go_ret
   first|exact ⟨_,Sl.block (w.heap.size+1) A9 [.int .i64 (c),.int .i64 (d+a),.int .i64 (b-a),.int .i64 (0)],rfl,CL ⟨c,d+a,b-a,0⟩ _,Av _ F⟩|exact ⟨_,rfl,Sl.block (w.heap.size+1) A9 [.int .i64 (c),.int .i64 (d+a),.int .i64 (b-a),.int .i64 (0)],CL ⟨c,d+a,b-a,0⟩ _,Av _ F⟩
  have o:(g !=0)=true:=by simpa using hl
  rw[if_pos hl]
  rcases Int.lt_or_le 0 a with ha|ha
  ·go_enter Tryz.func95,Tryz.ntmps95
   go_wp2
   go_ret
   first|exact ⟨_,Sl.block (w.heap.size+1) A9 [.int .i64 (c),.int .i64 (d+a),.int .i64 (b-a),.int .i64 (-1)],rfl,CL ⟨c,d+a,b-a,-1⟩ _,Av _ F⟩|exact ⟨_,rfl,Sl.block (w.heap.size+1) A9 [.int .i64 (c),.int .i64 (d+a),.int .i64 (b-a),.int .i64 (-1)],CL ⟨c,d+a,b-a,-1⟩ _,Av _ F⟩
  have hb:b<f:=by omega
  have k: ¬0<a:=by omega
  go_enter Tryz.func95,Tryz.ntmps95
  go_wp2
  go_ret
  first|exact ⟨_,Sl.block (w.heap.size+1) A9 [.int .i64 (c),.int .i64 (d+a),.int .i64 (b-a),.int .i64 (-1)],rfl,CL ⟨c,d+a,b-a,-1⟩ _,Av _ F⟩|exact ⟨_,rfl,Sl.block (w.heap.size+1) A9 [.int .i64 (c),.int .i64 (d+a),.int .i64 (b-a),.int .i64 (-1)],CL ⟨c,d+a,b-a,-1⟩ _,Av _ F⟩
 rw[if_neg m]
 have ha: ¬0<a:=by omega
 have hb: ¬b<f:=by omega
 go_enter Tryz.func95,Tryz.ntmps95
 go_wp2
 go_ret
 first|exact ⟨_,Sl.block (w.heap.size+1) A9 [.int .i64 (c),.int .i64 (d),.int .i64 (f),.int .i64 (g)],rfl,CL ⟨c,d,f,g⟩ _,Av _ F⟩|exact ⟨_,rfl,Sl.block (w.heap.size+1) A9 [.int .i64 (c),.int .i64 (d),.int .i64 (f),.int .i64 (g)],CL ⟨c,d,f,g⟩ _,Av _ F⟩
theorem Ej(l:List As):BD l=(l.all Ai&&decide (Ab l≤1048576)):=rfl
theorem KC{l:List As}{i:Nat}{y:As}(hy:l[i]?=some y)(h:Ai y=false):BD l=false:=by
 rw[Ej]
 have:l.all Ai=false:=by
  rw[List.all_eq_false]
  exact ⟨y,List.mem_of_getElem? hy,by simp[h]⟩
 rw[this]
 rfl
theorem Up(y:As):may ⟨true,[y],[]⟩=Ai y:=by
 unfold may
 cases h:Ai y with
 |false=>simp[h]
 | true =>
  have:=C0 h
  simp[h,Ab,BZ,BB]
  omega
theorem Fw(l : List As)(v : Value)(B F : Ac)(w : World)(J : Aq B v l)(hs : Sat (B * F) w)(hl : l.length ≤ 4294967296) :
 Calls Tryz.prog 79 #[v] w fun e Q=>e= .returned (.bool (BD l))∧Sat (B*F) Q:=by
 obtain ⟨a0,c0,rfl,a4,a5⟩:=J.v
 have Z:Aside (Aq B (.slice a0 l.length c0) l):=J
 obtain ⟨n,O⟩: ∃n,l.length=n:=⟨_,rfl⟩
 rw[O] at hl⊢
 have R:Aside (l.length=n):=O
 obtain ⟨t,c⟩: ∃r,BD l=r:=⟨_,rfl⟩
 rw[c]
 have I:Aside (BD l=t):=c
 haveI:=hs.i
 clear J O c
 go_enter Tryz.func79,Tryz.ntmps79
 go_wp2
 go_loopg [3,8] n (fun g t3 t8 wr=> ∃(i:Nat),t8= .int .i64 i∧t3= .int .i64 (Ab (l.take i))∧i≤n∧Aside (g=n-i)∧Aside ((∀x∈l.take i,Ai x=true)∧0≤Ab (l.take i)∧Ab (l.take i)≤1048576)∧Sat (B*F) wr)
 case atStart=>exact ⟨0,rfl,by simp[Ab],by omega,rfl,⟨by simp,by simp[Ab],by simp[Ab]⟩,hs⟩
 obtain ⟨i,rfl,rfl,hi,A,D,o⟩:=hrel
 haveI:=o.i
 clear hs
 by_cases M:i<n
 · have m : (i : Int) < n := by omega
   obtain ⟨y,hy⟩: ∃y,l[i]?=some y:=⟨_,List.getElem?_eq_getElem (by rw[R.out];exact M)⟩
   obtain ⟨b,q,rfl,r1,U,V,W⟩:=BW Z.out hy
   have k:Aside (Ab (l.take (i+1))=Ab (l.take i)+y.len∧l.take (i+1)=l.take i++ [y]):=⟨BX hy,AA hy⟩
   have a: ∀(G:Ac)(w:World)(b:Nat),Sat (Sl.block b A9 (CZ y)*G) w→Calls Tryz.prog 133 #[.agg #[.bool true,.slice (some ⟨b,0,none⟩) 1 1,.slice none 0 0]] w fun e Q=>e= .returned (.bool (Ai y))∧Sat (Sl.block b A9 (CZ y)*G) Q:=fun G w b h=>by
    rw[←Up]
    refine KE ⟨true,[y],[]⟩ _ _ G w ⟨_,_,rfl,?_,Al.nil 4 _⟩ h (by simp) (by simp)
    refine ⟨rfl,_,_,rfl,Nat.le_refl _,by omega,fun j u hj=>⟨b,0,rfl,?_⟩⟩
    have L:(CZ y)[j]?=some u:=by simpa[AQ] using hj
    haveI:At (CZ y) j u:=⟨L⟩
    rw[Nat.zero_add]
    infer_instance
   have H:Aside (Ai y=false→t=false):=fun h=>I.out.symm.trans (KC hy h)
   have K:=D.out.2
   obtain ⟨z,s⟩: ∃z,Ab (l.take i)=z:=⟨_,rfl⟩
   rw[s] at K k⊢
   cases d:Ai y with
   | false =>
     rw[d] at a
     have c:=H.out d
     subst c
     obtain ⟨y1,y2,Y,y4⟩:=y
     unfold CZ at a
     simp only at r1 U V W a
     clear hy s d
     go_wp2_with fail
     with_reducible refine Calls.mono (a _ _ _ (Ae (Sl.block _ A9 _))) ?_
     rintro e X ⟨rfl,p⟩
     haveI:=p.i
     go_wp2
     go_ret
     exact ⟨rfl,Av _ _⟩
   | true =>
     rw[d] at a
     have P:=C0 d
     have HY:Aside (Ai y=true):=d
     obtain ⟨y1,y2,Y,y4⟩:=y
     unfold CZ at a
     simp only at r1 U V W a P k
     clear d
     by_cases T:1048576<z+Y
     ·have c : t = false := by
       rw[←I.out]
       rw[Ej]
       by_cases f:l.all Ai=true
       ·have h1:Ab l=Ab (l.take (i+1))+Ab (l.drop (i+1)):=by rw[←Ak,List.take_append_drop]
        have h2:0≤Ab (l.drop (i+1)):=by
         have:=(CN (l:=l.drop (i+1)) (fun x hx=>by
          have:=C0 (List.all_eq_true.1 f x (List.mem_of_mem_drop hx))
          omega) (l.drop (i+1)).length).1
         rwa [List.take_of_length_le (Nat.le_refl _)] at this
        have h3:=k.out.1
        rw[decide_eq_false (by omega),Bool.and_false]
       rw[Bool.not_eq_true] at f
       rw[f]
       rfl
      subst c
      clear hy s
      go_wp2_with fail
      with_reducible refine Calls.mono (a _ _ _ (Ae (Sl.block _ A9 _))) ?_
      rintro e X ⟨rfl,p⟩
      haveI:=p.i
      go_wp2
      go_ret
      exact ⟨rfl,Av _ _⟩
     clear hy s
     go_wp2_with fail
     with_reducible refine Calls.mono (a _ _ _ (Ae (Sl.block _ A9 _))) ?_
     rintro e X ⟨rfl,p⟩
     haveI:=p.i
     go_wp2
     go_roundg (n-(i+1))
     case measure=>have:=A.out;omega
     refine ⟨i+1,by go_num,by rw[k.out.1],by omega,rfl,⟨?_,by rw[k.out.1];omega,by rw[k.out.1];omega⟩,Av _ _⟩
     rw[k.out.2]
     intro x hx
     rcases List.mem_append.1 hx with hx|hx
     ·exact D.out.1 x hx
     simp at hx;subst hx;exact HY.out
 have m: ¬(i:Int)<n:=by omega
 obtain rfl:i=n:=by omega
 have c:t=true:=by
  rw[←I.out]
  have h:=D.out
  rw[List.take_of_length_le (by rw[R.out];exact Nat.le_refl _)] at h
  rw[Ej]
  rw[List.all_eq_true.2 h.1,decide_eq_true h.2.2]
  rfl
 subst c
 go_wp2
 go_ret
 exact ⟨rfl,o⟩
end Go.Proofs.YtfhbmblbidcmmaaGreat
namespace Go.Proofs.YtfhbmblbidcmmaaGreat
open Go.RowKit Go.Sl Go.Dk
open Go.UB (AZ)
attribute [local go_sem] KA SO Tj S8
def Ck.forget(s:Ck)(no:Int):Bool×Ck:=if Df s.its no then (true, { s with its:=E5 s.its no,BU:=EV no s.BU }) else (false,s)
theorem SG(C D:Nat)(s:Ck)(m:Nat)(no:Int)(F:Ac)(w:World)(hs:Sat (AD C D s*F) w)(ok:Bi m s):
 Calls Tryz.prog 135 #[.pointer (some ⟨C,0,none⟩),.int .i64 no] w fun e l=>e= .returned (.bool (s.forget no).1)∧Sat (AD C D (s.forget no).2*F) l:=by
 obtain ⟨L,PM,ps,hp,hs⟩:=Sat.Cv hs
 have Dl:=fun F w h=>Zi L s.cap s.its no F w h ok.Lj
 unfold Ck.forget
 unfold BN at hs
 haveI:=hs.i
 cases f:Df s.its no with
 | true =>
  rw[f,if_pos rfl] at Dl
  rw[if_pos rfl]
  obtain ⟨b,hb,hl,r,t⟩:=ok.key (DV f)
  have g:Aside (∀(F:Ac)(w:World),Sat (Cf L s.cap s.its*F) w→Calls Tryz.prog 164 #[.pointer (some ⟨L,0,none⟩),.int .i64 no] w fun e l=>e= .returned (.bool true)∧Sat (Cf L s.cap (E5 s.its no)*F) l):=Dl
  have c:Aside (B8 ps=s.BU∧AP no s.BU=some b):=⟨hp,hb⟩
  clear Dl hl r t f
  rcases GP ps no with ⟨l1,p,l2,rfl,rfl,j⟩|k
  ·obtain ⟨_,_,_,o,q⟩:=GQ (l2:=l2) j
   have n:Aside (B8 (l1++l2)=EV p.key s.BU∧EU p.key ((l1++p::l2).map Jy)=(l1++l2).map Jy):=⟨by rw[←c.out.1];exact o.symm,q⟩
   clear o q hp hb
   go_enter Tryz.func135,Tryz.ntmps135
   go_wp2_with fail
   refine (g.out _ _ (Ae (Cf L s.cap s.its))).mono ?_
   rintro e u ⟨rfl,a⟩
   haveI:=a.i
   clear hs
   go_wp2
   go_ret
   refine ⟨rfl,?_⟩
   refine Sat.AW (L:=L) (PM:=PM) (ps:=l1++l2) n.out.1 ?_
   refine Br (C:=rw TB 1 p.v (A4 p.b)) ?_
   rw[n.out.2,C1,show AX (p::l2)=rw TB 1 p.v (A4 p.b)*AX l2 from rfl]
   show _=coreC C L D PM s*(Cf L s.cap (E5 s.its p.key)*(Bh D s.d*(mp AZ PM ((l1++l2).map Jy)*AX (l1++l2))))*F*rw TB 1 p.v (A4 p.b)
   rw[C1]
   ac_rfl
  have:=c.out.2
  rw[←c.out.1,(Jn k).1] at this
  cases this
 | false =>
  rw[f,if_neg (by simp)] at Dl
  rw[if_neg (by simp)]
  have c:Aside (B8 ps=s.BU):=hp
  clear f hp
  go_enter Tryz.func135,Tryz.ntmps135
  go_wp2_with fail
  refine (Dl _ _ (Ae (Cf L s.cap s.its))).mono ?_
  rintro e u ⟨rfl,a⟩
  haveI:=a.i
  go_wp2
  go_ret
  refine ⟨rfl,Sat.AW (L:=L) (PM:=PM) c.out ?_⟩
  unfold BN
  exact A8 (by ac_rfl)
end Go.Proofs.YtfhbmblbidcmmaaGreat
namespace Go.Proofs.YtfhbmblbidcmmaaGreat
open Go.RowKit Go.Sl Go.Dk Go.Tr
def CY(l:List Int)(c:Ck):Ck:=l.foldl (fun c no=>(c.forget no).2) c
open Go.UB (AZ)
theorem US{m:Nat}{s:Ck}(hw:Bi m s)(no:Int):Bi m (s.forget no).2:=by
 unfold Ck.forget
 by_cases a:Df s.its no=true
 ·simp only[a,if_true]
  have c:=Uv hw.Lj (DV a)
  refine ⟨Xh hw.Lj no,hw.nd.sublist ((KS _ _).map _),?_,?_,fun p hp=>hw.Ay p ((KS _ _).subset hp),hw.cap,?_,hw.dk,hw.nm,hw.reads⟩
  ·intro k
   show Bf (E5 s.its no) k=(AP k (EV no s.BU)).isSome
   rw[FE hw.nd]
   by_cases b:k=no
   ·rw[if_pos b]
    subst b
    show _=false
    rw[Bool.eq_false_iff]
    intro h
    exact (KO.1 (Bb.1 h)).2 rfl
   rw[if_neg b,←hw.same k,Bool.eq_iff_iff,Bb,Bb,KO]
   simp[b]
  ·show (EV no s.BU).length=(E5 s.its no).length
   have:=R6 (k:=no) (l:=s.BU) (by rw[←hw.same];exact DV a)
   have:=hw.len
   omega
  have:=hw.most
  show ((E5 s.its no).length:Int)≤s.cap
  omega
 rw[if_neg a]
 exact hw
theorem MK{m:Nat}(l:List Int){s:Ck}(hw:Bi m s):Bi m (CY l s):=by
 induction l generalizing s with
 |nil=>exact hw
 |cons a l b=>exact b (US hw a)
