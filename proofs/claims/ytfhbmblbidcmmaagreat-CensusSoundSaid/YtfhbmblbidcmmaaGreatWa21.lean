/- censusSound holds for every input. No condition. (part 21) -/
import Derived.Test.YtfhbmblbidcmmaaGreatWa18
import Derived.Test.YtfhbmblbidcmmaaGreatWa19
import Derived.Test.YtfhbmblbidcmmaaGreatWa20
set_option linter.all false
set_option maxRecDepth 100000
set_option maxHeartbeats 3200000
namespace Go.Tr
theorem Q5{α:Type}{f:α→List Value}{s:Nat}(a: ∀x,(f x).length=s): ∀(l:List α)(i:Nat),(l.flatMap f).drop (i*s)=(l.drop i).flatMap f
 | [],i=>by simp
 |y::l,0=>by simp
 | y :: l, i + 1 => by
  rw[List.flatMap_cons,List.drop_succ_cons,Nat.add_mul,Nat.one_mul,Nat.add_comm (i*s) s,←List.drop_drop,List.drop_left' (a y)]
  exact Q5 a l i
theorem Q6{α:Type}{f:α→List Value}{s:Nat}(a: ∀x,(f x).length=s): ∀(l:List α)(i:Nat),(l.flatMap f).take (i*s)=(l.take i).flatMap f
 | [],i=>by simp
 |y::l,0=>by simp
 | y :: l, i + 1 => by
  rw[List.flatMap_cons,List.take_succ_cons,List.flatMap_cons,Nat.add_mul,Nat.one_mul,Nat.add_comm (i*s) s,List.take_append,a y,Nat.add_sub_cancel_left,List.take_of_length_le (by rw[a];omega),Q6 a l i]
theorem Yi{α:Type}(l:List α){i j:Nat}(h:j≤l.length):(sub l i j).length=j-i:=by
 unfold sub
 rw[List.length_take,List.length_drop]
 omega
theorem T2{α:Type}{f:α→List Value}{s:Nat}(a: ∀x,(f x).length=s)(l:List α)(i j:Nat):((l.flatMap f).drop (i*s)).take ((j-i)*s)=(sub l i j).flatMap f:=by
 rw[Q5 a,Q6 a]
 rfl
end Go.Tr
namespace Go.Proofs.YtfhbmblbidcmmaaGreat
open Go.RowKit Go.Sl Go.Dk Go.Tr
theorem KV{B:Ab}{a:Option Addr}{c:Nat}{l:List Av}(h:A1 B (.slice a l.length c) l){i j:Nat}(h1:i≤j)(b:j≤l.length):A1 B (.slice (AH a c i 4) (j-i) (c-i)) (sub l i j):=by
 have:=Ai.cut h i j h1 b
 unfold A1
 rw[Yi l b,AQ,←T2 (s:=4) (fun _=>rfl)]
 exact this
theorem IM{B:Ab}{a:Option Addr}{c:Nat}{l:List Kd}(h:BE B (.slice a l.length c) l){i j:Nat}(h1:i≤j)(b:j≤l.length):BE B (.slice (AH a c i 4) (j-i) (c-i)) (sub l i j):=by
 have:=Ai.cut h i j h1 b
 unfold BE
 rw[Yi l b,Hd,←T2 (s:=4) (fun _=>rfl)]
 exact this
theorem Q3(w:World):Calls Tryz.prog 158 #[.int .i64 0] w fun e a=>e= .returned (.tuple #[])∧w=a:=by
 go_enter Tryz.func158,Tryz.ntmps158
 go_wp2
 go_end0
 exact ⟨rfl,rfl⟩
theorem Ju(e:Int)(h:e≠0)(w:World):Calls Tryz.prog 158 #[.int .i64 e] w fun a b=>a= .panicked (CM e)∧w=b:=by
 have c:(e==0)=false:=by simp[h]
 have d:(e !=0)=true:=by simp[h]
 go_enter Tryz.func158,Tryz.ntmps158
 go_wp2
 exact ⟨rfl,rfl,rfl⟩
theorem OY(n:Nd)(v:Value)(B F:Ab)(w:World)(j:AN B v n)(hs:Sat (B*F) w)(k:n.Ag.length≤4294967296)(l:n.kids.length≤4294967296):
 Calls Tryz.prog 130 #[v] w fun e m=>e= .returned (.int .i64 (many n))∧Sat (B*F) m:=by
 obtain ⟨q,vK,rfl,a,b⟩:=j
 obtain ⟨aE,cE,rfl,c,d⟩:=a.v
 obtain ⟨o,p,rfl,f,g⟩:=b.v
 haveI:=hs.i
 clear a b
 go_enter Tryz.func130,Tryz.ntmps130
 go_wp2
 go_ret
 refine ⟨?_,Ar B F⟩
 simp[many]
abbrev DF:TypeId:=175
def Bi(x:BK):Value:= .agg #[.int .i64 x.ER.Au,.int .i64 x.ER.bytes,.int .i64 x.ER.lines,.int .i64 x.ER.AA,.int .i64 x.Al]
def mH(k:Kd):Value:= .agg #[.int .i64 k.Au,.int .i64 k.bytes,.int .i64 k.lines,.int .i64 k.AA]
theorem LH(F:Ab)(w:World)(hs:Sat F w):Calls Tryz.prog 143 #[] w fun e a=>e= .returned (Bi C0)∧Sat F a:=by
 haveI:=hs.i
 go_enter Tryz.func143,Tryz.ntmps143
 go_wp2
 go_returns
 exact ⟨rfl,n8 F⟩
theorem PH(n:Nd)(i j:Nat)(v:Value)(B F:Ab)(w:World)(y:AN B v n)(hs:Sat (B*F) w)(b:i≤j)(g:j≤if n.leaf then n.Ag.length else n.kids.length):
 Calls Tryz.prog 166 #[v,.int .i64 i,.int .i64 j] w fun e D=> ∃v',e= .returned v'∧AN B v' (CO n i j)∧Sat (B*F) D:=by
 obtain ⟨i0,E⟩:=EW
 obtain ⟨G,r⟩:=Mu
 obtain ⟨H,vK,rfl,m,o⟩:=y
 obtain ⟨aE,cE,rfl,s,t⟩:=m.v
 obtain ⟨p,l,rfl,u,x⟩:=o.v
 obtain ⟨lf,d⟩:=Aq n.leaf
 unfold CO
 rw[d] at g⊢
 haveI:=hs.i
 cases lf with
 | true =>
  simp only[if_true] at g⊢
  have f:Aside (A1 B (.slice (AH aE cE i 4) (j-i) (cE-i)) (sub n.Ag i j)):=KV m b g
  have q:=DL (P:=Tryz.prog) E (a:=aE) (n:=n.Ag.length) (c:=cE) i j b (by omega)
  clear m o d
  obtain ⟨z,k⟩:=Aq (AH aE cE i 4)
  rw[k] at q f
  clear k
  go_enter Tryz.func166,Tryz.ntmps166
  go_wp2
  go_returns
  exact ⟨_,rfl,⟨_,_,rfl,f.out,Ai.nil 4 _⟩,Ar B F⟩
 | false =>
  simp only[Bool.false_eq_true,if_false] at g⊢
  have f:Aside (BE B (.slice (AH p l i 4) (j-i) (l-i)) (sub n.kids i j)):=IM o b g
  have q:=DL (P:=Tryz.prog) r (a:=p) (n:=n.kids.length) (c:=l) i j b (by omega)
  clear m o d
  obtain ⟨z,k⟩:=Aq (AH p l i 4)
  rw[k] at q f
  clear k
  go_enter Tryz.func166,Tryz.ntmps166
  go_wp2
  go_returns
  exact ⟨_,rfl,⟨_,_,rfl,Ai.nil 4 _,f.out⟩,Ar B F⟩
end Go.Proofs.YtfhbmblbidcmmaaGreat
namespace Go.Sl
theorem Yg{A R:Ab}{b e s:Nat}{w:World}[AR A w][Take A (Sl.block b e []) R]:Sat (rw e s (.slice (some ⟨b,0,none⟩) 0 0) []*R) w:=
 Sat.EA (sp:= []) (by simp) (by simp) (Nat.le_refl _) (by simp[maxLen]) (Ae (Sl.block b e []))
end Go.Sl
namespace Go.Proofs.YtfhbmblbidcmmaaGreat
open Go.RowKit Go.Sl Go.Dk Go.Tr
theorem Is(l:List Av): ∀u∈AQ l,u.oneCell'=true:=by
 intro u a
 unfold AQ Dq at a
 rw[List.mem_flatMap] at a
 obtain ⟨x,_,a⟩:=a
 simp at a
 rcases a with rfl|rfl|rfl|rfl<;>rfl
theorem XJ(l:List Kd): ∀u∈Hd l,u.oneCell'=true:=by
 intro u a
 unfold Hd Qe at a
 rw[List.mem_flatMap] at a
 obtain ⟨x,_,a⟩:=a
 simp at a
 rcases a with rfl|rfl|rfl|rfl<;>rfl
theorem DH{a:Option Addr}{n c:Nat}{l:List Av}{F:Ab}{w:World}(hs:Sat (rw AK 4 (.slice a n c) (AQ l)*F) w)(b:n=l.length):A1 (rw AK 4 (.slice a n c) (AQ l)) (.slice a n c) l:=by
 subst b
 exact Ai.rw hs ⟨a,c,rfl⟩
theorem Z3{a:Option Addr}{n c:Nat}{l:List Kd}{F:Ab}{w:World}(hs:Sat (rw Lh 4 (.slice a n c) (Hd l)*F) w)(b:n=l.length):BE (rw Lh 4 (.slice a n c) (Hd l)) (.slice a n c) l:=by
 subst b
 exact Ai.rw hs ⟨a,c,rfl⟩
theorem Ow(a b:Nd)(T U:Value)(B F:Ab)(w:World)(hA:AN B T a)(hB:AN B U b)(hs:Sat (B*F) w)(h1:a.Ag.length≤65536)(h2:b.Ag.length≤65536)(h3:a.kids.length≤65536)(h4:b.kids.length≤65536):
 Calls Tryz.prog 169 #[T,U] w fun e c=> ∃v' G,e= .returned v'∧AN G v' (both a b)∧Sat (G*(B*F)) c:=by
 obtain ⟨i0,E⟩:=EW
 obtain ⟨i1,y⟩:=Mu
 obtain ⟨vE,vK,rfl,l,m⟩:=hA
 obtain ⟨aE,cE,rfl,am,an⟩:=l.v
 obtain ⟨aK,cK,rfl,ao,ap⟩:=m.v
 obtain ⟨uE,uK,rfl,j,k⟩:=hB
 obtain ⟨bE,dE,rfl,ad,ae⟩:=j.v
 obtain ⟨bK,dK,rfl,af,ag⟩:=k.v
 have H:=As l
 have I:=As m
 have z:=As j
 have D:=As k
 obtain ⟨d,o⟩:=Aq a.Ag.length
 obtain ⟨g,p⟩:=Aq b.Ag.length
 obtain ⟨f,q⟩:=Aq a.kids.length
 obtain ⟨n4,r⟩:=Aq b.kids.length
 have J:Aside (d+g=(a.Ag++b.Ag).length∧f+n4=(a.kids++b.kids).length):=⟨by simp[o,p],by simp[q,r]⟩
 have s:=fun(F:Ab)(w:World)(h:Sat (B*F) w)=>H.out.src (P:=Tryz.prog) (Is a.Ag) h
 have t:=fun(F:Ab)(w:World)(h:Sat (B*F) w)=>I.out.src (P:=Tryz.prog) (XJ a.kids) h
 have u:=fun(F:Ab)(w:World)(h:Sat (B*F) w)=>z.out.src (P:=Tryz.prog) (Is b.Ag) h
 have x:=fun(F:Ab)(w:World)(h:Sat (B*F) w)=>D.out.src (P:=Tryz.prog) (XJ b.kids) h
 rw[o] at s h1⊢
 rw[p] at u h2⊢
 rw[q] at t h3⊢
 rw[r] at x h4⊢
 have V:=As s
 have W:=As t
 have X:=As u
 have Y:=As x
 haveI:=hs.i
 clear l m j k o p q r s t u x H I z D
 go_enter Tryz.func169,Tryz.ntmps169
 go_upto_region 1 with (fail)
 go_region_held3 (fun c=>c.cell? ⟨w.heap.size,0,none⟩=some (.bool a.leaf)∧c.cell? ⟨w.heap.size,1,none⟩=some (.slice aE d cE)∧c.cell? ⟨w.heap.size,2,none⟩=some (.slice aK f cK)∧c.cell? ⟨w.heap.size+1,1,none⟩=some (.slice bE g dE)∧c.cell? ⟨w.heap.size+1,2,none⟩=some (.slice bK n4 dK)) (exact ⟨Ac _ _ _,Ac _ _ _,Ac _ _ _,Ac _ _ _,Ac _ _ _⟩) (first
  |(refine A6 E rfl (.tmp 7) (.tmp 9) rfl rfl rfl Yg (V.out _ _ (Ae B)) (by unfold maxLen;omega) (by omega) ?_;intro Z c1 w1 M z1;clear z1;rw[Nat.zero_add,List.nil_append] at M;rw[Nat.zero_add];haveI:=M.i)
  |(refine A6 E rfl (.tmp 10) (.tmp 12) rfl rfl rfl (Ae (rw AK 4 (.slice Z d c1) (AQ a.Ag))) (X.out _ _ (Ae B)) (by unfold maxLen;omega) (by omega) ?_;intro K c2 w2 O z2;clear z2;haveI:=O.i)
  |(refine A6 y rfl (.tmp 14) (.tmp 16) rfl rfl rfl Yg (W.out _ _ (Ae B)) (by unfold maxLen;omega) (by omega) ?_;intro a3 c3 w3 Q z3;clear z3;rw[Nat.zero_add,List.nil_append] at Q;rw[Nat.zero_add];haveI:=Q.i)
  |(refine A6 y rfl (.tmp 17) (.tmp 19) rfl rfl rfl (Ae (rw Lh 4 (.slice a3 f c3) (Hd a.kids))) (Y.out _ _ (Ae B)) (by unfold maxLen;omega) (by omega) ?_;intro L c4 w4 R z4;clear z4;haveI:=R.i))
 all_goals
  go_wp2
  go_returns
  have e1:AQ a.Ag++AQ b.Ag=AQ (both a b).Ag:=by simp[AQ,both]
  have e2:Hd a.kids++Hd b.kids=Hd (both a b).kids:=by simp[Hd,both]
  have r1:=Ai.rw O ⟨K,c2,rfl⟩ (n:=d+g)
  have r2:=Ai.rw R ⟨L,c4,rfl⟩ (n:=f+n4)
  refine ⟨_,rw AK 4 (.slice K (d+g) c2) (AQ a.Ag++AQ b.Ag)*rw Lh 4 (.slice L (f+n4) c4) (Hd a.kids++Hd b.kids),rfl,⟨_,_,rfl,Ai.left ?_,Ai.right ?_⟩,(Cz _ _ _ _).eq (Az _ _ _).symm⟩
  ·rw[←e1,show (both a b).Ag.length=d+g from J.out.1.symm]
   exact r1
  rw[←e2,show (both a b).kids.length=f+n4 from J.out.2.symm]
  exact r2
