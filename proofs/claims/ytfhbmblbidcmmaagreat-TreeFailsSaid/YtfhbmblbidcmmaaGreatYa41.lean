/- treeFails holds for every input. No condition. (part 41) -/
import Derived.Test.YtfhbmblbidcmmaaGreatYa31
set_option linter.all false
set_option maxRecDepth 100000
set_option maxHeartbeats 3200000
namespace Go.Tr
theorem Tk(l:List As)(y:As)(n r:Int):C4 (l++ [y]) n r=((C4 l n r).1-y.len,if 0<(C4 l n r).1 then (C4 l n r).2+1 else (C4 l n r).2):=by
 induction l generalizing n r with
 |nil=>simp only[List.nil_append,C4];rfl
 |cons a l b=>simp only[List.cons_append,C4];rw[b];rfl
theorem RC(l:List As)(n r:Int)(h: ∀y∈l,1≤y.len∧y.len≤1048576):(C4 l n r).1≤n∧n-1048576*l.length≤(C4 l n r).1∧r≤(C4 l n r).2∧(C4 l n r).2≤r+l.length:=by
 induction l generalizing n r with
 |nil=>simp[C4]
 | cons a l c =>
  have ha:=h a (List.mem_cons_self ..)
  have hi:=c (n-a.len) (if 0<n then r+1 else r) fun y hy=>h y (List.mem_cons_of_mem _ hy)
  simp only[C4,List.length_cons]
  have:((l.length+1:Nat):Int)=l.length+1:=by omega
  rw[this]
  split at hi<;>rename_i b
  ·rw[if_pos b];omega
  rw[if_neg b];omega
theorem V6(l:List Kd)(n r:Int)(M:Int)(d:0≤M)(h: ∀k∈l,0≤k.A7∧k.A7≤M):match F3 l n r with
 | .inr b=>r≤b∧b≤r+M*l.length
 | .inl (k,_,b)=>k∈l∧r≤b∧b≤r+M*l.length:=by
 induction l generalizing n r with
 |nil=>simp[F3]
 | cons a l f =>
  have ha:=h a (List.mem_cons_self ..)
  have hi:=f (n-a.bytes) (r+a.A7) fun y hy=>h y (List.mem_cons_of_mem _ hy)
  have e:M*((l.length+1:Nat):Int)=M*l.length+M:=by
   have:((l.length+1:Nat):Int)=l.length+1:=by omega
   rw[this,Int.mul_add,Int.mul_one]
  have g:0≤M*(l.length:Int):=Int.mul_nonneg d (by omega)
  simp only[F3,List.length_cons]
  rw[e]
  by_cases c:n<a.bytes
  · rw[if_pos c]
    exact ⟨List.mem_cons_self ..,by omega,by omega⟩
  rw[if_neg c]
  revert hi
  cases F3 l (n-a.bytes) (r+a.A7) with
  |inr b=>intro hi;simp only at hi⊢;omega
  |inl p=>obtain ⟨k,m,b⟩:=p;intro hi;simp only at hi⊢;exact ⟨List.mem_cons_of_mem _ hi.1,by omega,by omega⟩
end Go.Tr
namespace Go.Proofs.YtfhbmblbidcmmaaGreat
open Go.Tr
theorem EY{σ:Type}{rd:Int→M σ Nd}(c: ∀p s n s',rd p s= .ok n s'→may n=true)(T:Int)(i:12582924≤T): ∀(f:Nat)(x:BH)(n:Int)(s:σ)(z:Int)(s':σ),0≤x.DK.A7→x.DK.A7≤T→Cu rd f x n s= .ok z s'→0≤z∧z≤T*(f+1:Nat)
 | f, x, n, s, z, s', l, o, h => by
  have u:T≤T*((f+1:Nat):Int):=by
   have e:((f+1:Nat):Int)=f+1:=by omega
   rw[e,Int.mul_add,Int.mul_one]
   have:0≤T*(f:Int):=Int.mul_nonneg (by omega) (by omega)
   omega
  unfold Cu at h
  by_cases d:n≤0∨x.An<0
  · rw[if_pos d] at h;cases h;omega
  rw[if_neg d] at h
  by_cases c2:x.DK.bytes≤n
  · rw[if_pos c2] at h;cases h;omega
  rw[if_neg c2] at h
  cases f with
  |zero=>cases h
  | succ f =>
    obtain ⟨y,s1,hy,h⟩:=Aw h
    have hm:=c _ _ _ _ hy
    obtain ⟨l1,l2⟩:=Cl hm
    obtain ⟨j,g⟩:=Db hm
    have t:=RC y.Ao n 0 fun x hx=>by
     have:=(j x hx).2
     unfold Ai at this
     simp only[decide_eq_true_eq] at this
     omega
    have a:=V6 y.kids (C4 y.Ao n 0).1 (C4 y.Ao n 0).2 1048576 (by omega) fun k a=>by
     have:=(g k a).2
     unfold AE at this
     simp only[decide_eq_true_eq] at this
     omega
    revert h a
    cases F3 y.kids (C4 y.Ao n 0).1 (C4 y.Ao n 0).2 with
    |inr r=>intro h a;cases h;simp only at a;omega
    | inl p =>
      obtain ⟨k,m,r⟩:=p
      intro h a
      obtain ⟨q,s2,hq,h⟩:=Aw h
      cases h
      simp only at a
      have b:=(g k a.1).2
      unfold AE at b
      simp only[decide_eq_true_eq] at b
      have:=EY c T i f ⟨k,x.An-1⟩ m s1 q _ (by simp only;omega) (by simp only;omega) hq
      have e:((f+1+1:Nat):Int)=(f+1:Nat)+1:=by omega
      rw[e,Int.mul_add,Int.mul_one]
      omega
open Go.Dk Go.RowKit Go.Sl
def Ye(z:Int)(v:Value)(B:Ac):Prop:=v= .int .i64 z∧B=1
def Uz(f:Nat)(a:Int):(Kd×Int×Int) ⊕ Int→M TS Int
 | .inr r=>M.pure r
 | .inl (k,m,r)=>M.bind (Cu Ah f ⟨k,a-1⟩ m) fun z=>M.pure (r+z)
def VZ(f:Nat):Prop:= ∀(h:Th)(s:TS)(x:BH)(n:Int)(F:Ac)(w:World),Sat (Ad h s*F) w→ -1≤x.An→x.An≤1000→0≤x.DK.A7→x.DK.A7≤16777216→n≤1099511627776→f≤1000→Cu Ah f x n s≠ .bad→
 Calls Tryz.prog 97 #[.pointer (some ⟨h.t,0,none⟩),AH x,.int .i64 n] w (D4 h F (Cu Ah f x n s) Ye)
theorem RF(f:Nat)(h:Th)(s:TS)(x:BH)(n:Int)(F:Ac)(w:World)(hs:Sat (Ad h s*F) w)(b:n≤0∨x.An<0):
 Calls Tryz.prog 97 #[.pointer (some ⟨h.t,0,none⟩),AH x,.int .i64 n] w (D4 h F (Cu Ah f x n s) Ye):=by
 have a:Cu Ah f x n s= .ok 0 s:=by unfold Cu;rw[if_pos b];rfl
 rw[a]
 clear a
 obtain ⟨⟨g,j,k,l⟩,c⟩:=x
 simp only at b
 unfold AH
 simp only
 haveI:=hs.i
 by_cases d:n≤0
 ·clear b
  go_enter Tryz.func97,Tryz.ntmps97
  go_wp2
  go_returns
  exact ⟨_,1,rfl,⟨rfl,rfl⟩,by rw[Am];exact Av _ _⟩
 have e:c<0:=by omega
 clear b
 go_enter Tryz.func97,Tryz.ntmps97
 go_wp2
 go_returns
 exact ⟨_,1,rfl,⟨rfl,rfl⟩,by rw[Am];exact Av _ _⟩
theorem Pu(f:Nat)(h:Th)(s:TS)(x:BH)(n:Int)(F:Ac)(w:World)(hs:Sat (Ad h s*F) w)(j:0<n)(c:0≤x.An)(b:x.DK.bytes≤n):
 Calls Tryz.prog 97 #[.pointer (some ⟨h.t,0,none⟩),AH x,.int .i64 n] w (D4 h F (Cu Ah f x n s) Ye):=by
 have a:Cu Ah f x n s= .ok x.DK.A7 s:=by unfold Cu;rw[if_neg (by omega),if_pos b];rfl
 rw[a]
 clear a
 obtain ⟨⟨k,l,m,o⟩,d⟩:=x
 simp only at c b
 unfold AH
 simp only
 have e: ¬n≤0:=by omega
 have g: ¬d<0:=by omega
 haveI:=hs.i
 go_enter Tryz.func97,Tryz.ntmps97
 go_wp2
 go_returns
 exact ⟨_,1,rfl,⟨rfl,rfl⟩,by rw[Am];exact Av _ _⟩
theorem YK(f:Nat)(ih:VZ f)(h:Th)(s:TS)(x:BH)(n:Int)(F:Ac)(w:World)(hs:Sat (Ad h s*F) w)(h1:0<n)(h2:0≤x.An)(az:x.An≤1000)(h3: ¬x.DK.bytes≤n)(c8:n≤1099511627776)(hf:f≤999)(hb:Cu Ah (f+1) x n s≠ .bad):
 Calls Tryz.prog 97 #[.pointer (some ⟨h.t,0,none⟩),AH x,.int .i64 n] w (D4 h F (Cu Ah (f+1) x n s) Ye):=by
 obtain ⟨R,hR⟩: ∃R,Cu Ah (f+1) x n s=R:=⟨_,rfl⟩
 rw[hR] at hb⊢
 have HB:Aside (R≠ .bad):=hb
 have HI:Aside (VZ f):=ih
 unfold Cu at hR
 rw[if_neg (by omega),if_neg h3] at hR
 have HR:Aside (M.bind (Ah x.DK.Ay) (fun y=>match F3 y.kids (C4 y.Ao n 0).1 (C4 y.Ao n 0).2 with
  | .inr r=>M.pure r
  | .inl (k,m,r)=>M.bind (Cu Ah f ⟨k,x.An-1⟩ m) fun z=>M.pure (r+z)) s=R):=hR
 clear hR hb ih
 obtain ⟨⟨Y,x2,x3,x4⟩,B⟩:=x
 simp only at h2 az h3 HR
 unfold AH
 simp only
 obtain ⟨m,hm⟩: ∃m,Ah Y s=m:=⟨_,rfl⟩
 have K:=AK HR.out HB.out
 have W:=fun F w q n=>C7 h s Y F w q n
 rw[hm] at K W
 have P:Aside (Ah Y s=m):=hm
 have g1: ¬n≤0:=by omega
 have g2: ¬B<0:=by omega
 clear hm
 haveI:=hs.i
 go_enter Tryz.func97,Tryz.ntmps97
 go_wp2_with fail
 with_reducible refine Calls.mono (W _ _ (Ae (Ad h s)) K) ?_
 rintro e w2 h4
 cases m with
 |bad=>exact absurd rfl K
 | fault er s2 =>
   obtain ⟨rfl,q2⟩:=h4
   haveI:=q2.i
   have u:=AL HR.out P.out
   subst u
   exact ⟨rfl,rfl,Av _ _⟩
 | ok y s2 =>
   obtain ⟨v2,B2,rfl,⟨hN,T⟩,q2⟩:=h4
   have Q:=AJ HR.out P.out
   clear W K HR P
   obtain ⟨se,sk,rfl,hE,hK⟩:=hN
   obtain ⟨a1,c1,rfl,aa,bp⟩:=hE.v
   obtain ⟨a2,c2,rfl,ab,bq⟩:=Al.v hK
   obtain ⟨ag,ah⟩:=Cl T
   have a3:Aside (may y=true):=T
   obtain ⟨lf,es,ks⟩:=y
   simp only at hE hK ag ah aa ab Q⊢
   obtain ⟨ne,U⟩: ∃ne,es.length=ne:=⟨_,rfl⟩
   obtain ⟨o,V⟩: ∃o,ks.length=o:=⟨_,rfl⟩
   have HE:Aside (Aq B2 (.slice a1 es.length c1) es∧es.length=ne):=⟨hE,U⟩
   have HK:Aside (B1 B2 (.slice a2 ks.length c2) ks∧ks.length=o):=⟨hK,V⟩
   rw[U] at ag aa⊢
   rw[V] at ah ab⊢
   haveI:=q2.i
   clear hE hK T U V
   have HP:Aside (Uz f B (F3 ks (C4 es n 0).1 (C4 es n 0).2) s2=R):=Q
   clear Q
   go_wp2_with fail
   have q4:Sat (Ad h s2*(B2*(Sl.block w2.heap.size Ev [.bool lf,.slice a1 ne c1,.slice a2 o c2]*(Sl.block w.heap.size CG [.int .i64 Y,.int .i64 x2,.int .i64 x3,.int .i64 x4,.int .i64 B]*F)))) (w2.alloc (.cells #[.bool lf,.slice a1 ne c1,.slice a2 o c2] Ev)):=A8 (by ac_rfl)
   obtain ⟨N4,ac⟩: ∃N,w.heap.size=N:=⟨_,rfl⟩
   obtain ⟨N7,ad⟩: ∃N,w2.heap.size=N:=⟨_,rfl⟩
   rw[ac,ad] at q4⊢
   clear ac ad q2 hs this
   go_loopg [2,8,36] ne (fun g t2 t8 b8 wr=> ∃(i:Nat)(a c:Int),b8= .int .i64 i∧t2= .int .i64 a∧t8= .int .i64 c∧i≤ne∧a≤1099511627776∧ -1048576*(i:Int)≤a∧0≤c∧c≤i∧Aside (g=ne-i∧C4 (es.take i) n 0=(a,c))∧
    Sat (Ad h s2*(B2*(Sl.block N7 Ev [.bool lf,.slice a1 ne c1,.slice a2 o c2]*(Sl.block N4 CG [.int .i64 Y,.int .i64 x2,.int .i64 x3,.int .i64 x4,.int .i64 B]*F)))) wr)
   case atStart=>exact ⟨0,n,0,rfl,rfl,rfl,by omega,by omega,by omega,by omega,by omega,⟨rfl,rfl⟩,q4⟩
   obtain ⟨i,a,c,rfl,rfl,rfl,hi,bt,bu,bv,bw,A,X⟩:=hrel
   clear q4
   haveI:=X.i
   by_cases c4:i<ne
   · have aj:(i:Int)<ne:=by omega
     obtain ⟨y,hy⟩: ∃y,es[i]?=some y:=⟨_,List.getElem?_eq_getElem (by have:=HE.out.2;omega)⟩
     obtain ⟨b,q,rfl,r1,r2,r3,r4⟩:=BW HE.out.1 hy
     have L:=((Db a3.out).1 y (List.mem_of_getElem? hy)).2
     have D:Aside (C4 (es.take (i+1)) n 0=(a-y.len,if 0<a then c+1 else c)):=(by rw[AA hy,Tk,A.out.2]:_=_)
     unfold Ai at L
     simp only[decide_eq_true_eq] at L
     obtain ⟨y1,y2,Z,y4⟩:=y
     simp only at L r1 r2 r3 r4 D
     have cb:1≤Z:=by omega
     have cc:Z≤1048576:=by omega
     have b1:IntKind.i64.wrap (c+1)=c+1:=IntWalk.i64_in _ (by omega)
     have b2:IntKind.i64.wrap (a-Z)=a-Z:=IntWalk.i64_in _ (by omega)
     clear L hy
     by_cases hp:0<a
     · rw[if_pos hp] at D
       go_wp2
       go_roundg (ne-(i+1))
       case measure=>have:=A.out.1;omega
       case rel=>exact ⟨i+1,a-Z,c+1,by go_num,rfl,rfl,by omega,by omega,by omega,by omega,by omega,⟨rfl,D.out⟩,BL _ _ _ _ _⟩
     rw[if_neg hp] at D
     go_wp2
     go_roundg (ne-(i+1))
     case measure=>have:=A.out.1;omega
     case rel=>exact ⟨i+1,a-Z,c,by go_num,rfl,rfl,by omega,by omega,by omega,by omega,by omega,⟨rfl,D.out⟩,BL _ _ _ _ _⟩
   have aj: ¬(i:Int)<ne:=by omega
   obtain rfl:i=ne:=by omega
   have l:=A.out.2
   rw[List.take_of_length_le (by rw[HE.out.2];exact Nat.le_refl _)] at l
   have a4:Aside (Uz f B (F3 ks a c) s2=R):=(by have:=HP.out;rw[l] at this;exact this:_=_)
   clear l HP A
   go_wp2_with fail
   go_loopg [2,8,53] o (fun g t2 t8 b9 wr=> ∃(j:Nat)(a c:Int),b9= .int .i64 j∧t2= .int .i64 a∧t8= .int .i64 c∧j≤o∧a≤1099511627776∧ -12582912≤a∧0≤c∧c≤12+1048576*(j:Int)∧Aside (g=o-j∧Uz f B (F3 (ks.drop j) a c) s2=R)∧
    Sat (Ad h s2*(B2*(Sl.block N7 Ev [.bool lf,.slice a1 i c1,.slice a2 o c2]*(Sl.block N4 CG [.int .i64 Y,.int .i64 x2,.int .i64 x3,.int .i64 x4,.int .i64 B]*F)))) wr)
   case atStart=>exact ⟨0,a,c,rfl,rfl,rfl,by omega,by omega,by omega,by omega,by omega,⟨rfl,a4.out⟩,X⟩
   obtain ⟨j,I,O,rfl,rfl,rfl,bs,b0,c5,c6,c7,A,ak⟩:=hrel
   clear X a4 this
   haveI:=ak.i
   by_cases c3:j<o
   · have ai:(j:Int)<o:=by omega
     obtain ⟨k,hk⟩: ∃k,ks[j]?=some k:=⟨_,List.getElem?_eq_getElem (by have:=HK.out.2;omega)⟩
     obtain ⟨b,q,rfl,r1,r2,r3,r4⟩:=Dc HK.out.1 hk
     have J:=((Db a3.out).2 k (List.mem_of_getElem? hk)).2
     have hd:ks.drop j=k::ks.drop (j+1):=by
      obtain ⟨u1,u2⟩:=List.getElem?_eq_some_iff.1 hk
      rw[List.drop_eq_getElem_cons u1,u2]
     have l:=A.out.2
     rw[hd,F3] at l
     unfold AE at J
     simp only[decide_eq_true_eq] at J
     obtain ⟨k1,G,k3,H⟩:=k
     simp only at J r1 r2 r3 r4 l
     have XZ:1≤G:=by omega
     have bx:G≤1048576:=by omega
     have bz:1≤H:=by omega
     have c0:H≤1048576:=by omega
     have HA:Aside (gk=o-j):=A.out.1
     clear J hk hd A
     by_cases hp:I<G
     · rw[if_pos hp] at l
       have D:Aside (M.bind (Cu Ah f ⟨⟨k1,G,k3,H⟩,B-1⟩ I) (fun z=>M.pure (O+z)) s2=R):=l
       obtain ⟨m,hm⟩: ∃m,Cu Ah f ⟨⟨k1,G,k3,H⟩,B-1⟩ I s2=m:=⟨_,rfl⟩
       have K:=AK D.out HB.out
       have d:=fun F w q n=>HI.out h s2 ⟨⟨k1,G,k3,H⟩,B-1⟩ I F w q (by simp only;omega) (by simp only;omega) (by simp only;omega) (by simp only;omega) b0 (by omega) n
       have HZ:Aside (∀z s',m= .ok z s'→0≤z∧z≤16777216*((f+1:Nat):Int)):=fun z s' e=>EY (fun p s n s' h=>C6 h) 16777216 (by omega) f ⟨⟨k1,G,k3,H⟩,B-1⟩ I s2 z s' (by simp only;omega) (by simp only;omega) (hm.trans e)
       rw[hm] at K d
       have P:Aside (Cu Ah f ⟨⟨k1,G,k3,H⟩,B-1⟩ I s2=m):=hm
       unfold AH at d
       simp only at d
       have c9:IntKind.i64.wrap (B-1)=B-1:=IntWalk.i64_in _ (by omega)
       clear hm l
       go_wp2_with fail
       with_reducible refine Calls.mono (d _ _ (Ae (Ad h s2)) K) ?_
       rintro e w4 h4
       cases m with
       |bad=>exact absurd rfl K
       | fault er s3 =>
        obtain ⟨rfl,q5⟩:=h4
        haveI:=q5.i
        have u:=AL D.out P.out
        subst u
        exact ⟨rfl,rfl,Av _ _⟩
       | ok z s3 =>
        obtain ⟨v5,B5,rfl,⟨rfl,rfl⟩,q5⟩:=h4
        rw[Am] at q5
        obtain ⟨z1,z2⟩:=HZ.out z s3 rfl
        have ca:IntKind.i64.wrap (O+z)=O+z:=IntWalk.i64_in _ (by omega)
        have af:=AJ D.out P.out
        have u:R= .ok (O+z) s3:=af.symm
        subst u
        haveI:=q5.i
        clear d K D P HZ HB HI af z1 z2
        go_wp2
        go_returns
        exact ⟨_,1,rfl,⟨rfl,rfl⟩,by rw[Am];exact Av _ _⟩
     rw[if_neg hp] at l
     have D:Aside (Uz f B (F3 (ks.drop (j+1)) (I-G) (O+H)) s2=R):=l
     have b1:IntKind.i64.wrap (O+H)=O+H:=IntWalk.i64_in _ (by omega)
     have b2:IntKind.i64.wrap (I-G)=I-G:=IntWalk.i64_in _ (by omega)
     clear l
     go_wp2_with fail
     go_quiet (fail)
     go_wp2
     go_roundg (o-(j+1))
     case measure=>have:=HA.out;omega
     case rel=>exact ⟨j+1,I-G,O+H,by go_num,rfl,rfl,by omega,by omega,by omega,by omega,by omega,⟨rfl,D.out⟩,BL _ _ _ _ _⟩
   have ai: ¬(j:Int)<o:=by omega
   obtain rfl:j=o:=by omega
   have l:=A.out.2
   rw[List.drop_of_length_le (by rw[HK.out.2];exact Nat.le_refl _)] at l
   have u:R= .ok O s2:=l.symm
   subst u
   clear l A HB HI
   go_wp2
   go_returns
   exact ⟨_,1,rfl,⟨rfl,rfl⟩,by rw[Am];exact Av _ _⟩
theorem KV(f:Nat):VZ f:=by
 induction f with
 | zero =>
  intro h s x n F w hs e c g i d j hb
  by_cases b:n≤0∨x.An<0
  ·exact RF 0 h s x n F w hs b
  by_cases a:x.DK.bytes≤n
  ·exact Pu 0 h s x n F w hs (by omega) (by omega) a
  exact absurd (by unfold Cu;rw[if_neg b,if_neg a];rfl) hb
 | succ f k =>
  intro h s x n F w hs e c g i d j hb
  by_cases b:n≤0∨x.An<0
  ·exact RF (f+1) h s x n F w hs b
  by_cases a:x.DK.bytes≤n
  ·exact Pu (f+1) h s x n F w hs (by omega) (by omega) a
  exact YK f k h s x n F w hs (by omega) (by omega) c a d (by omega) hb
def K'(z:As×Int)(v:Value)(B:Ac):Prop:=v= .tuple #[.agg #[.int .i64 z.1.src,.int .i64 z.1.pos,.int .i64 z.1.len,.int .i64 z.1.lines],.int .i64 z.2]∧B=1
def NM(f:Nat)(n:Int):ZW→M TS (As×Int)
 | .here x a=>M.pure (x,a)
 | .V0=>M.fail 13
 | .below p a=>M.bind (Ah p) fun m=>DG Ah f m n a
def WH(ks:List Kd)(n:Int):ZW ⊕ Int→ZW
 | .inl h=>h
 | .inr a=>Lx ks n a
theorem RU(f:Nat)(m:Nd)(n a:Int)(s:TS):DG Ah (f+1) m n a s=NM f n (WH m.kids n (JM m.Ao n a)) s:=by
 rw[DG]
 unfold UW
 cases JM m.Ao n a with
 |inl h=>cases h<;>rfl
 |inr a=>simp only[WH];cases Lx m.kids n a<;>rfl
theorem GX(h : Th)(s : TS)(root n : Int)(F : Ac)(w : World)(hs : Sat (Ad h s * F) w)(hb : IX Ah root n s ≠ .bad) :
 Calls Tryz.prog 94 #[.pointer (some ⟨h.t,0,none⟩),.int .i64 root,.int .i64 n] w (D4 h F (IX Ah root n s) K'):=by
 obtain ⟨R,hR⟩: ∃R,IX Ah root n s=R:=⟨_,rfl⟩
 rw[hR] at hb⊢
 have HB:Aside (R≠ .bad):=hb
 unfold IX at hR
 have HR:Aside (M.bind (Ah root) (fun m=>DG Ah 22 m n 0) s=R):=hR
 clear hR hb
 obtain ⟨m,hm⟩: ∃m,Ah root s=m:=⟨_,rfl⟩
 have O:=AK HR.out HB.out
 have o:=fun F w q n=>C7 h s root F w q n
 rw[hm] at O o
 have X:Aside (Ah root s=m):=hm
 clear hm
 haveI:=hs.i
 go_enter Tryz.func94,Tryz.ntmps94
 go_wp2_with fail
 go_step3
 go_wp2_with fail
 with_reducible refine Calls.mono (o _ _ (Ae (Ad h s)) O) ?_
 rintro e w2 h4
 cases m with
 |bad=>exact absurd rfl O
 | fault er s2 =>
  obtain ⟨rfl,q2⟩:=h4
  haveI:=q2.i
  have c:=AL HR.out X.out
  subst c
  exact ⟨rfl,rfl,Av _ _⟩
 | ok y s2 =>
  obtain ⟨v2,B2,rfl,⟨hN,am⟩,q2⟩:=h4
  have ae:=AJ HR.out X.out
  have HG:Aside (DG Ah 22 y n 0 s2=R):=ae
  clear o O HR X ae
  obtain ⟨se,sk,rfl,D,H⟩:=hN
  obtain ⟨x,z,rfl,b8,b9⟩:=D.v
  obtain ⟨B,c2,rfl,ba,bb⟩:=Al.v H
  have HN:Aside (may y=true∧AN B2 (.agg #[.bool y.leaf,.slice x y.Ao.length z,.slice B y.kids.length c2]) y):=⟨am,_,_,rfl,D,H⟩
  haveI:=q2.i
  clear D H am
  go_wp2_with fail
  go_step3
  go_wp2_with fail
  have q4:Sat (Ad h s2*(B2*(Sl.block w2.heap.size Ev [.bool y.leaf,.slice x y.Ao.length z,.slice B y.kids.length c2]*(Sl.block w.heap.size A9 [.int .i64 0,.int .i64 0,.int .i64 0,.int .i64 0]*F)))) (w2.alloc (.cells #[.bool y.leaf,.slice x y.Ao.length z,.slice B y.kids.length c2] Ev)):=A8 (by ac_rfl)
  obtain ⟨N6,ab⟩: ∃N,w.heap.size=N:=⟨_,rfl⟩
  obtain ⟨N9,ac⟩: ∃N,w2.heap.size=N:=⟨_,rfl⟩
  rw[ab,ac] at q4⊢
  clear ab ac q2 hs this
  go_loopg [8,17] 22 (fun g t8 bm wr=> ∃(i f:Nat)(m:Nd)(Z:Int)(x:Option Addr)(z:Nat)(B:Option Addr)(c2:Nat)(G:Ac)(s':TS),t8= .int .i64 Z∧bm= .int .i64 i∧i+f=22∧0≤Z∧Z≤25165824*(i:Int)∧Aside (g=f∧DG Ah f m n Z s'=R)∧Aside (may m=true∧AN G (.agg #[.bool m.leaf,.slice x m.Ao.length z,.slice B m.kids.length c2]) m)∧
   Sat (Ad h s'*(G*(Sl.block N9 Ev [.bool m.leaf,.slice x m.Ao.length z,.slice B m.kids.length c2]*(Sl.block N6 A9 [.int .i64 0,.int .i64 0,.int .i64 0,.int .i64 0]*F)))) wr)
  case atStart=>exact ⟨0,22,y,0,x,z,B,c2,B2,s2,rfl,rfl,by omega,by omega,by omega,⟨rfl,HG.out⟩,HN.out,q4⟩
  obtain ⟨i,f,m,Z,x,z,B,c2,G,s',rfl,rfl,c5,c3,c4,A,K,p⟩:=hrel
  clear q4 HN HG
  cases f with
  | zero =>
    have c:R= .fault 13 s':=A.out.2.symm
    subst c
    obtain rfl:i=22:=by omega
    haveI:=p.i
    clear A K HB
    go_wp2_with fail
    exact ⟨rfl,rfl,Av _ _⟩
  | succ f =>
    have bw:(i:Int)<22:=by omega
    have a:=A.out.2
    rw[RU] at a
    have HA:Aside (gk=f+1):=A.out.1
    obtain ⟨vE,vK,hv,D,H⟩:=K.out.2
    cases hv
    obtain ⟨lf,es,ks⟩:=m
    have Y:Aside (may ⟨lf,es,ks⟩=true):=K.out.1
    obtain ⟨ag,ai⟩:=Cl Y.out
    simp only at D H ag ai a p⊢
    obtain ⟨ne,a0⟩: ∃ne,es.length=ne:=⟨_,rfl⟩
    obtain ⟨u,a3⟩: ∃u,ks.length=u:=⟨_,rfl⟩
    have HE:Aside (Aq G (.slice x es.length z) es∧es.length=ne):=⟨D,a0⟩
    have HK:Aside (B1 G (.slice B ks.length c2) ks∧ks.length=u):=⟨H,a3⟩
    have HP:Aside (NM f n (WH ks n (JM es n Z)) s'=R):=a
    rw[a0] at ag p
    rw[a3] at ai p
    haveI:=p.i
    clear D H a0 a3 a A K
    go_wp2_with fail
    go_loopg [8,22] ne (fun g t8 bn wx=> ∃(j:Nat)(d:Int),t8= .int .i64 d∧bn= .int .i64 j∧j≤ne∧0≤d∧d≤25165824*(i:Int)+1048576*(j:Int)∧Aside (g=ne-j∧NM f n (WH ks n (JM (es.drop j) n d)) s'=R)∧
     Sat (Ad h s'*(G*(Sl.block N9 Ev [.bool lf,.slice x ne z,.slice B u c2]*(Sl.block N6 A9 [.int .i64 0,.int .i64 0,.int .i64 0,.int .i64 0]*F)))) wx)
    case atStart=>exact ⟨0,Z,rfl,rfl,by omega,by omega,by omega,⟨rfl,HP.out⟩,p⟩
    obtain ⟨j,d,rfl,rfl,hj,c6,c9,A,I⟩:=hrel
    clear p HP this
    haveI:=I.i
    by_cases cb:j<ne
    · have ak:(j:Int)<ne:=by omega
      obtain ⟨y,hy⟩: ∃y,es[j]?=some y:=⟨_,List.getElem?_eq_getElem (by have:=HE.out.2;omega)⟩
      obtain ⟨b,q,rfl,r1,r2,r3,r4⟩:=BW HE.out.1 hy
      have P:=((Db Y.out).1 y (List.mem_of_getElem? hy)).2
      have hd:es.drop j=y::es.drop (j+1):=by
       obtain ⟨u1,u2⟩:=List.getElem?_eq_some_iff.1 hy
       rw[List.drop_eq_getElem_cons u1,u2]
      have a:=A.out.2
      rw[hd,JM] at a
      have W:Aside (gk=ne-j):=A.out.1
      unfold Ai at P
      simp only[decide_eq_true_eq] at P
      obtain ⟨y1,y2,V,y4⟩:=y
      simp only at P r1 r2 r3 r4 a
      have be:1≤V:=by omega
      have bf:V≤1048576:=by omega
      have bd:IntKind.i64.wrap (d+V)=d+V:=IntWalk.i64_in _ (by omega)
      clear P hy hd A
      by_cases hp:n<d+V
      · rw[if_pos hp] at a
        have c:R= .ok (⟨y1,y2,V,y4⟩,d) s':=a.symm
        subst c
        clear a HB
        go_wp2
        try rw[Exit.noGoto_ret]
        go_returns
        exact ⟨_,1,rfl,⟨rfl,rfl⟩,by rw[Am];exact Av _ _⟩
      rw[if_neg hp] at a
      have Q:Aside (NM f n (WH ks n (JM (es.drop (j+1)) n (d+V))) s'=R):=a
      clear a
      go_wp2
      go_roundg (ne-(j+1))
      case measure=>have:=W.out;omega
      case rel=>exact ⟨j+1,d+V,rfl,by go_num,by omega,by omega,by omega,⟨rfl,Q.out⟩,BL _ _ _ _ _⟩
    have ak: ¬(j:Int)<ne:=by omega
    obtain rfl:j=ne:=by omega
    have a:=A.out.2
    rw[List.drop_of_length_le (by rw[HE.out.2];exact Nat.le_refl _)] at a
    have a9:Aside (NM f n (Lx ks n d) s'=R):=a
    clear a A
    go_wp2_with fail
    go_loopg [8,44] u (fun g t8 bo wx=> ∃(l:Nat)(d:Int),t8= .int .i64 d∧bo= .int .i64 l∧l≤u∧0≤d∧d≤25165824*(i:Int)+12582912+1048576*(l:Int)∧Aside (g=u-l∧NM f n (Lx (ks.drop l) n d) s'=R)∧
     Sat (Ad h s'*(G*(Sl.block N9 Ev [.bool lf,.slice x j z,.slice B u c2]*(Sl.block N6 A9 [.int .i64 0,.int .i64 0,.int .i64 0,.int .i64 0]*F)))) wx)
    case atStart=>exact ⟨0,d,rfl,rfl,by omega,by omega,by omega,⟨rfl,a9.out⟩,I⟩
    obtain ⟨l,T,rfl,rfl,hk,XZ,ca,A,an⟩:=hrel
    clear I a9 this
    haveI:=an.i
    by_cases cc:l<u
    · have al:(l:Int)<u:=by omega
      obtain ⟨k,hk⟩: ∃k,ks[l]?=some k:=⟨_,List.getElem?_eq_getElem (by have:=HK.out.2;omega)⟩
      obtain ⟨b,q,rfl,r1,r2,r3,r4⟩:=Dc HK.out.1 hk
      have L:=((Db Y.out).2 k (List.mem_of_getElem? hk)).2
      have hd:ks.drop l=k::ks.drop (l+1):=by
       obtain ⟨u1,u2⟩:=List.getElem?_eq_some_iff.1 hk
       rw[List.drop_eq_getElem_cons u1,u2]
      have a:=A.out.2
      rw[hd,Lx] at a
      have W:Aside (gk=u-l):=A.out.1
      unfold AE at L
      simp only[decide_eq_true_eq] at L
      obtain ⟨k1,k2,k3,k4⟩:=k
      simp only at L r1 r2 r3 r4 a
      have be:1≤k2:=by omega
      have bf:k2≤1048576:=by omega
      have bd:IntKind.i64.wrap (T+k2)=T+k2:=IntWalk.i64_in _ (by omega)
      clear L hd A
      by_cases hp:n<T+k2
      · rw[if_pos hp] at a
        have Q:Aside (M.bind (Ah k1) (fun m=>DG Ah f m n T) s'=R):=a
        obtain ⟨r,hr⟩: ∃r,Ah k1 s'=r:=⟨_,rfl⟩
        have O:=AK Q.out HB.out
        have o:=fun F w q n=>C7 h s' k1 F w q n
        rw[hr] at O o
        have X:Aside (Ah k1 s'=r):=hr
        clear hr a hk
        go_wp2_with fail
        with_reducible refine Calls.mono (o _ _ (Ae (Ad h s')) O) ?_
        rintro e w4 h4
        cases r with
        |bad=>exact absurd rfl O
        | fault er s3 =>
         obtain ⟨rfl,q5⟩:=h4
         haveI:=q5.i
         have c:=AL Q.out X.out
         subst c
         exact ⟨rfl,rfl,Av _ _⟩
        | ok J s3 =>
         obtain ⟨v5,B5,rfl,⟨bc,U⟩,q5⟩:=h4
         have af:=AJ Q.out X.out
         have b1:Aside (DG Ah f J n T s3=R):=af
         obtain ⟨se,sk,rfl,D,H⟩:=bc
         obtain ⟨a7,c7,rfl,b8,b9⟩:=D.v
         obtain ⟨a8,c8,rfl,ba,bb⟩:=Al.v H
         have b3:Aside (may J=true∧AN B5 (.agg #[.bool J.leaf,.slice a7 J.Ao.length c7,.slice a8 J.kids.length c8]) J):=⟨U,_,_,rfl,D,H⟩
         haveI:=q5.i
         clear o O Q X af D H U
         go_wp2_with fail
         go_roundg f
         case measure=>have:=HA.out;omega
         refine ⟨i+1,f,J,T,a7,c7,a8,c8,B5,s3,rfl,by go_num,by omega,by omega,by omega,⟨rfl,b1.out⟩,b3.out,?_⟩
         show Sat (Ad h s3*(B5*(Sl.block N9 Ev ((([.bool lf,.slice x j z,.slice (some ⟨b,q,none⟩) u c2].set 0 (.bool J.leaf)).set 1 (.slice a7 J.Ao.length c7)).set 2 (.slice a8 J.kids.length c8))*(Sl.block N6 A9 [.int .i64 0,.int .i64 0,.int .i64 0,.int .i64 0]*F)))) _
         exact BL _ _ _ _ _
      rw[if_neg hp] at a
      have Q:Aside (NM f n (Lx (ks.drop (l+1)) n (T+k2)) s'=R):=a
      clear a hk
      go_wp2
      go_roundg (u-(l+1))
      case measure=>have:=W.out;omega
      case rel=>exact ⟨l+1,T+k2,rfl,by go_num,by omega,by omega,by omega,⟨rfl,Q.out⟩,BL _ _ _ _ _⟩
    have al: ¬(l:Int)<u:=by omega
    obtain rfl:l=u:=by omega
    have a:=A.out.2
    rw[List.drop_of_length_le (by rw[HK.out.2];exact Nat.le_refl _)] at a
    have c:R= .fault 13 s':=a.symm
    subst c
    clear a A HB
    go_wp2_with fail
    exact ⟨rfl,rfl,Av _ _⟩
