/- censusPages holds for every input. No condition. (part 24) -/
import Derived.Test.YtfhbmblbidcmmaaGreatVa21
import Derived.Test.YtfhbmblbidcmmaaGreatVa22
import Derived.Test.YtfhbmblbidcmmaaGreatVa23
set_option linter.all false
set_option maxRecDepth 100000
set_option maxHeartbeats 3200000
namespace Go.Tr
theorem QC{α:Type}{f:α→List Value}{s:Nat}(a: ∀x,(f x).length=s): ∀(l:List α)(i:Nat),(l.flatMap f).drop (i*s)=(l.drop i).flatMap f
 | [],i=>by simp
 |y::l,0=>by simp
 | y :: l, i + 1 => by
  rw[List.flatMap_cons,List.drop_succ_cons,Nat.add_mul,Nat.one_mul,Nat.add_comm (i*s) s,←List.drop_drop,List.drop_left' (a y)]
  exact QC a l i
theorem QD{α:Type}{f:α→List Value}{s:Nat}(a: ∀x,(f x).length=s): ∀(l:List α)(i:Nat),(l.flatMap f).take (i*s)=(l.take i).flatMap f
 | [],i=>by simp
 |y::l,0=>by simp
 | y :: l, i + 1 => by
  rw[List.flatMap_cons,List.take_succ_cons,List.flatMap_cons,Nat.add_mul,Nat.one_mul,Nat.add_comm (i*s) s,List.take_append,a y,Nat.add_sub_cancel_left,List.take_of_length_le (by rw[a];omega),QD a l i]
theorem Yt{α:Type}(l:List α){i j:Nat}(h:j≤l.length):(sub l i j).length=j-i:=by
 unfold sub
 rw[List.length_take,List.length_drop]
 omega
theorem T8{α:Type}{f:α→List Value}{s:Nat}(a: ∀x,(f x).length=s)(l:List α)(i j:Nat):((l.flatMap f).drop (i*s)).take ((j-i)*s)=(sub l i j).flatMap f:=by
 rw[QC a,QD a]
 rfl
end Go.Tr
namespace Go.Proofs.YtfhbmblbidcmmaaGreat
open Go.RowKit Go.Sl Go.Dk Go.Tr
theorem KV{B:Ab}{a:Option Addr}{c:Nat}{l:List Ar}(h:Au B (.slice a l.length c) l){i j:Nat}(h1:i≤j)(b:j≤l.length):Au B (.slice (AK a c i 4) (j-i) (c-i)) (sub l i j):=by
 have:=Aj.cut h i j h1 b
 unfold Au
 rw[Yt l b,AO,←T8 (s:=4) (fun _=>rfl)]
 exact this
theorem IF{B:Ab}{a:Option Addr}{c:Nat}{l:List Kd}(h:AS B (.slice a l.length c) l){i j:Nat}(h1:i≤j)(b:j≤l.length):AS B (.slice (AK a c i 4) (j-i) (c-i)) (sub l i j):=by
 have:=Aj.cut h i j h1 b
 unfold AS
 rw[Yt l b,G0,←T8 (s:=4) (fun _=>rfl)]
 exact this
theorem QA(w:World):Calls Tryz.prog 158 #[.int .i64 0] w fun e a=>e= .returned (.tuple #[])∧w=a:=by
 go_enter Tryz.func158,Tryz.ntmps158
 go_wp2
 go_end0
 exact ⟨rfl,rfl⟩
theorem Jn(e:Int)(h:e≠0)(w:World):Calls Tryz.prog 158 #[.int .i64 e] w fun a b=>a= .panicked (CO e)∧w=b:=by
 have c:(e==0)=false:=by simp[h]
 have d:(e !=0)=true:=by simp[h]
 go_enter Tryz.func158,Tryz.ntmps158
 go_wp2
 exact ⟨rfl,rfl,rfl⟩
theorem Pa(n:Nd)(v:Value)(B F:Ab)(w:World)(j:AJ B v n)(hs:Sat (B*F) w)(k:n.Ag.length≤4294967296)(l:n.kids.length≤4294967296):
 Calls Tryz.prog 130 #[v] w fun e m=>e= .returned (.int .i64 (many n))∧Sat (B*F) m:=by
 obtain ⟨q,vK,rfl,a,b⟩:=j
 obtain ⟨aE,cE,rfl,c,d⟩:=a.v
 obtain ⟨o,p,rfl,f,g⟩:=b.v
 haveI:=hs.i
 clear a b
 go_enter Tryz.func130,Tryz.ntmps130
 go_wp2
 go_ret
 refine ⟨?_,Ao B F⟩
 simp[many]
abbrev DH:TypeId:=175
def Bj(x:BJ):Value:= .agg #[.int .i64 x.E8.Ap,.int .i64 x.E8.bytes,.int .i64 x.E8.lines,.int .i64 x.E8.A7,.int .i64 x.Am]
def mV(k:Kd):Value:= .agg #[.int .i64 k.Ap,.int .i64 k.bytes,.int .i64 k.lines,.int .i64 k.A7]
theorem LF(F:Ab)(w:World)(hs:Sat F w):Calls Tryz.prog 143 #[] w fun e a=>e= .returned (Bj C2)∧Sat F a:=by
 haveI:=hs.i
 go_enter Tryz.func143,Tryz.ntmps143
 go_wp2
 go_returns
 exact ⟨rfl,aD F⟩
theorem PL(n:Nd)(i j:Nat)(v:Value)(B F:Ab)(w:World)(y:AJ B v n)(hs:Sat (B*F) w)(b:i≤j)(g:j≤if n.leaf then n.Ag.length else n.kids.length):
 Calls Tryz.prog 166 #[v,.int .i64 i,.int .i64 j] w fun e D=> ∃v',e= .returned v'∧AJ B v' (C4 n i j)∧Sat (B*F) D:=by
 obtain ⟨i0,E⟩:=EW
 obtain ⟨G,r⟩:=Ms
 obtain ⟨H,vK,rfl,m,o⟩:=y
 obtain ⟨aE,cE,rfl,s,t⟩:=m.v
 obtain ⟨p,l,rfl,u,x⟩:=o.v
 obtain ⟨lf,d⟩:=Aq n.leaf
 unfold C4
 rw[d] at g⊢
 haveI:=hs.i
 cases lf with
 | true =>
  simp only[if_true] at g⊢
  have f:Aside (Au B (.slice (AK aE cE i 4) (j-i) (cE-i)) (sub n.Ag i j)):=KV m b g
  have q:=DN (P:=Tryz.prog) E (a:=aE) (n:=n.Ag.length) (c:=cE) i j b (by omega)
  clear m o d
  obtain ⟨z,k⟩:=Aq (AK aE cE i 4)
  rw[k] at q f
  clear k
  go_enter Tryz.func166,Tryz.ntmps166
  go_wp2
  go_returns
  exact ⟨_,rfl,⟨_,_,rfl,f.out,Aj.nil 4 _⟩,Ao B F⟩
 | false =>
  simp only[Bool.false_eq_true,if_false] at g⊢
  have f:Aside (AS B (.slice (AK p l i 4) (j-i) (l-i)) (sub n.kids i j)):=IF o b g
  have q:=DN (P:=Tryz.prog) r (a:=p) (n:=n.kids.length) (c:=l) i j b (by omega)
  clear m o d
  obtain ⟨z,k⟩:=Aq (AK p l i 4)
  rw[k] at q f
  clear k
  go_enter Tryz.func166,Tryz.ntmps166
  go_wp2
  go_returns
  exact ⟨_,rfl,⟨_,_,rfl,Aj.nil 4 _,f.out⟩,Ao B F⟩
end Go.Proofs.YtfhbmblbidcmmaaGreat
namespace Go.Sl
theorem Yq{A R:Ab}{b e s:Nat}{w:World}[AV A w][Take A (Sl.block b e []) R]:Sat (rw e s (.slice (some ⟨b,0,none⟩) 0 0) []*R) w:=
 Sat.EB (sp:= []) (by simp) (by simp) (Nat.le_refl _) (by simp[maxLen]) (Ae (Sl.block b e []))
end Go.Sl
namespace Go.Proofs.YtfhbmblbidcmmaaGreat
open Go.RowKit Go.Sl Go.Dk Go.Tr
theorem Ip(l:List Ar): ∀u∈AO l,u.oneCell'=true:=by
 intro u a
 unfold AO Dw at a
 rw[List.mem_flatMap] at a
 obtain ⟨x,_,a⟩:=a
 simp at a
 rcases a with rfl|rfl|rfl|rfl<;>rfl
theorem XT(l:List Kd): ∀u∈G0 l,u.oneCell'=true:=by
 intro u a
 unfold G0 Ql at a
 rw[List.mem_flatMap] at a
 obtain ⟨x,_,a⟩:=a
 simp at a
 rcases a with rfl|rfl|rfl|rfl<;>rfl
theorem DJ{a:Option Addr}{n c:Nat}{l:List Ar}{F:Ab}{w:World}(hs:Sat (rw AG 4 (.slice a n c) (AO l)*F) w)(b:n=l.length):Au (rw AG 4 (.slice a n c) (AO l)) (.slice a n c) l:=by
 subst b
 exact Aj.rw hs ⟨a,c,rfl⟩
theorem ZH{a:Option Addr}{n c:Nat}{l:List Kd}{F:Ab}{w:World}(hs:Sat (rw Kr 4 (.slice a n c) (G0 l)*F) w)(b:n=l.length):AS (rw Kr 4 (.slice a n c) (G0 l)) (.slice a n c) l:=by
 subst b
 exact Aj.rw hs ⟨a,c,rfl⟩
theorem Ow(a b:Nd)(Z vb:Value)(B F:Ab)(w:World)(hA:AJ B Z a)(hB:AJ B vb b)(hs:Sat (B*F) w)(h1:a.Ag.length≤65536)(h2:b.Ag.length≤65536)(h3:a.kids.length≤65536)(h4:b.kids.length≤65536):
 Calls Tryz.prog 169 #[Z,vb] w fun e g=> ∃v' G,e= .returned v'∧AJ G v' (both a b)∧Sat (G*(B*F)) g:=by
 obtain ⟨i0,E⟩:=EW
 obtain ⟨i1,K⟩:=Ms
 obtain ⟨vE,vK,rfl,s,t⟩:=hA
 obtain ⟨aE,cE,rfl,am,an⟩:=s.v
 obtain ⟨j,m,rfl,ao,ap⟩:=t.v
 obtain ⟨uE,uK,rfl,q,r⟩:=hB
 obtain ⟨k,o,rfl,ad,ae⟩:=q.v
 obtain ⟨l,p,rfl,af,ag⟩:=r.v
 have O:Aside (Au B (.slice aE a.Ag.length cE) a.Ag):=s
 have Q:Aside (AS B (.slice j a.kids.length m) a.kids):=t
 have L:Aside (Au B (.slice k b.Ag.length o) b.Ag):=q
 have M:Aside (AS B (.slice l b.kids.length p) b.kids):=r
 obtain ⟨c,u⟩:=Aq a.Ag.length
 obtain ⟨f,x⟩:=Aq b.Ag.length
 obtain ⟨d,y⟩:=Aq a.kids.length
 obtain ⟨n4,z⟩:=Aq b.kids.length
 have R:Aside (c+f=(a.Ag++b.Ag).length∧d+n4=(a.kids++b.kids).length):=⟨by simp[u,x],by simp[y,z]⟩
 have D:=fun(F:Ab)(w:World)(h:Sat (B*F) w)=>O.out.src (P:=Tryz.prog) (Ip a.Ag) h
 have H:=fun(F:Ab)(w:World)(h:Sat (B*F) w)=>Q.out.src (P:=Tryz.prog) (XT a.kids) h
 have I:=fun(F:Ab)(w:World)(h:Sat (B*F) w)=>L.out.src (P:=Tryz.prog) (Ip b.Ag) h
 have J:=fun(F:Ab)(w:World)(h:Sat (B*F) w)=>M.out.src (P:=Tryz.prog) (XT b.kids) h
 rw[u] at D h1⊢
 rw[x] at I h2⊢
 rw[y] at H h3⊢
 rw[z] at J h4⊢
 have SE:Aside (∀(F:Ab)(w:World),Sat (B*F) w→Src Tryz.prog 4 w (.slice aE c cE) c (AO a.Ag)):=D
 have SK:Aside (∀(F:Ab)(w:World),Sat (B*F) w→Src Tryz.prog 4 w (.slice j d m) d (G0 a.kids)):=H
 have TE:Aside (∀(F:Ab)(w:World),Sat (B*F) w→Src Tryz.prog 4 w (.slice k f o) f (AO b.Ag)):=I
 have TK:Aside (∀(F:Ab)(w:World),Sat (B*F) w→Src Tryz.prog 4 w (.slice l n4 p) n4 (G0 b.kids)):=J
 haveI:=hs.i
 clear s t q r u x y z D H I J O Q L M
 go_enter Tryz.func169,Tryz.ntmps169
 go_upto_region 1 with (fail)
 go_region_held3 (fun g=>g.cell? ⟨w.heap.size,0,none⟩=some (.bool a.leaf)∧g.cell? ⟨w.heap.size,1,none⟩=some (.slice aE c cE)∧g.cell? ⟨w.heap.size,2,none⟩=some (.slice j d m)∧g.cell? ⟨w.heap.size+1,1,none⟩=some (.slice k f o)∧g.cell? ⟨w.heap.size+1,2,none⟩=some (.slice l n4 p)) (exact ⟨Ac _ _ _,Ac _ _ _,Ac _ _ _,Ac _ _ _,Ac _ _ _⟩) (first
  |(refine A5 E rfl (.tmp 7) (.tmp 9) rfl rfl rfl Yq (SE.out _ _ (Ae B)) (by unfold maxLen;omega) (by omega) ?_;intro a1 c1 w1 V z1;clear z1;rw[Nat.zero_add,List.nil_append] at V;rw[Nat.zero_add];haveI:=V.i)
  |(refine A5 E rfl (.tmp 10) (.tmp 12) rfl rfl rfl (Ae (rw AG 4 (.slice a1 c c1) (AO a.Ag))) (TE.out _ _ (Ae B)) (by unfold maxLen;omega) (by omega) ?_;intro T c2 w2 W z2;clear z2;haveI:=W.i)
  |(refine A5 K rfl (.tmp 14) (.tmp 16) rfl rfl rfl Yq (SK.out _ _ (Ae B)) (by unfold maxLen;omega) (by omega) ?_;intro a3 c3 w3 X z3;clear z3;rw[Nat.zero_add,List.nil_append] at X;rw[Nat.zero_add];haveI:=X.i)
  |(refine A5 K rfl (.tmp 17) (.tmp 19) rfl rfl rfl (Ae (rw Kr 4 (.slice a3 d c3) (G0 a.kids))) (TK.out _ _ (Ae B)) (by unfold maxLen;omega) (by omega) ?_;intro U c4 w4 Y z4;clear z4;haveI:=Y.i))
 all_goals
  go_wp2
  go_returns
  have e1:AO a.Ag++AO b.Ag=AO (both a b).Ag:=by simp[AO,both]
  have e2:G0 a.kids++G0 b.kids=G0 (both a b).kids:=by simp[G0,both]
  have r1:=Aj.rw W ⟨T,c2,rfl⟩ (n:=c+f)
  have r2:=Aj.rw Y ⟨U,c4,rfl⟩ (n:=d+n4)
  refine ⟨_,rw AG 4 (.slice T (c+f) c2) (AO a.Ag++AO b.Ag)*rw Kr 4 (.slice U (d+n4) c4) (G0 a.kids++G0 b.kids),rfl,⟨_,_,rfl,Aj.left ?_,Aj.right ?_⟩,(Cx _ _ _ _).eq (Ax _ _ _).symm⟩
  ·rw[←e1,show (both a b).Ag.length=c+f from R.out.1.symm]
   exact r1
  rw[←e2,show (both a b).kids.length=d+n4 from R.out.2.symm]
  exact r2
