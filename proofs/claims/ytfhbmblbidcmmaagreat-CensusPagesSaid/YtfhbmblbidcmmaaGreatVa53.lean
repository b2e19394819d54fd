/- censusPages holds for every input. No condition. (part 53) -/
import Derived.Test.YtfhbmblbidcmmaaGreatVa47
import Derived.Test.YtfhbmblbidcmmaaGreatVa52
set_option linter.all false
set_option maxRecDepth 1000000
set_option maxHeartbeats 6400000
namespace Go.Proofs.YtfhbmblbidcmmaaGreat
open Go.RowKit Go.Sl Go.Dk Go.Tr
def LV(V:Int→Option Nd)(vl:List (Int×Int)):List Int:=vl.foldl (fun o v=>(A9 V v.1).Az.foldl Cy o) []
theorem YQ(l:List Int): ∀o:List Int,(l.foldl Cy o).length≤o.length+l.length:=by induction l with
 |nil=>intro o;simp
 | cons a l c =>
  intro o
  have b:=RD o a
  grind
theorem YR(l:List Int): ∀(o:List Int)(x:Int),x∈l.foldl Cy o↔x∈o∨x∈l:=by induction l with
 |nil=>intro o x;simp
 |cons a l b=>simp[List.foldl_cons,b,ZZ,List.mem_cons,or_assoc]
theorem p8(l:List Int): ∀{o:List Int},o.Pairwise (· < ·)→(l.foldl Cy o).Pairwise (· < ·):=by induction l with
 |nil=>intro o h;exact h
 |cons a l b=>intro o h;exact b (dS h a)
theorem ZJ{V:Int→Option Nd}{vl:List (Int×Int)}{i:Nat}{v:Int×Int}(h:vl[i]?=some v):LV V (vl.take (i+1))=(A9 V v.1).Az.foldl Cy (LV V (vl.take i)):=by simp[LV,List.take_add_one,h,List.foldl_append]
theorem Vg(V:Int→Option Nd): ∀(vl:List (Int×Int))(o:List Int)(x:Int),x∈vl.foldl (fun o v=>(A9 V v.1).Az.foldl Cy o) o↔x∈o∨ ∃v∈vl,x∈(A9 V v.1).Az
 | [],o,x=>by simp
 | v :: vl, o, x => by
  rw[List.foldl_cons,Vg V vl,YR,or_assoc]
  simp
theorem Yr(V:Int→Option Nd): ∀(vl:List (Int×Int)){o:List Int},o.Pairwise (· < ·)→(vl.foldl (fun o v=>(A9 V v.1).Az.foldl Cy o) o).Pairwise (· < ·)
 | [],o,h=>h
 |v::vl,o,h=>Yr V vl (p8 _ h)
theorem ML: ∀{a b:List Int},a.Pairwise (· < ·)→b.Pairwise (· < ·)→(∀x,x∈a↔x∈b)→a=b
 | [],[],_,_,_=>rfl
 | [],y::b,_,_,h=>by have:=(h y).2 List.mem_cons_self;cases this
 |x::a,[],_,_,h=>by have:=(h x).1 List.mem_cons_self;cases this
 | x :: a, y :: b, ha, hb, h => by
  obtain ⟨h1,g⟩:=List.pairwise_cons.1 ha
  obtain ⟨f,i⟩:=List.pairwise_cons.1 hb
  have e:x=y:=by
   rcases List.mem_cons.1 ((h x).1 List.mem_cons_self) with e|e
   · exact e
   rcases List.mem_cons.1 ((h y).2 List.mem_cons_self) with d|d
   · exact d.symm
   have:=h1 y d;have:=f x e;omega
  subst e
  rw[ML g i fun z=>?_]
  constructor
  · intro c
    rcases List.mem_cons.1 ((h z).1 (List.mem_cons_of_mem _ c)) with e|e
    · have:=h1 z c;omega
    exact e
  intro c
  rcases List.mem_cons.1 ((h z).2 (List.mem_cons_of_mem _ c)) with e|e
  · have:=f z c;omega
  exact e
def kX(V:Int→Option Nd)(vl:List (Int×Int))(F:Ab)(e:Ending)(b:World):Prop:=
 ((∀v∈vl,(A9 V v.1).ok=true)∧ ∃(a:Option Addr)(c:Nat),e= .returned (.tuple #[.slice a (LV V vl).length c,.bool true])∧Sat (rw Cb 1 (.slice a (LV V vl).length c) (ints (LV V vl))*F) b)∨
 ((∃v∈vl,(A9 V v.1).ok=false)∧e= .returned (.tuple #[.slice none 0 0,.bool false])∧Sat F b)
theorem cY(file:List UInt8)(vf v:Value)(vl:List (Int×Int))(b B F:Ab)(w:World)(hf:Reads b vf file)(an:file.length≤1099511627776)(hB:Aj 2 B v vl.length (BD vl))(hl:vl.length≤64)(hs:Sat (b*(B*F)) w):
 Calls Tryz.prog 58 #[vf,v] w (kX (As file) vl (b*(B*F))):=by
 obtain ⟨_,av,cv,rfl,W,az,_⟩:=id hB
 obtain ⟨n,hn⟩:=Aq vl.length
 have HB:Aside (Aj 2 B (.slice av n cv) n (BD vl)∧vl.length=n):=(by rw[←hn];exact ⟨hB,rfl⟩:_)
 rw[hn] at hl W⊢
 have HT:Aside (∀(r:Int) F w,Sat (b*F) w→Calls Tryz.prog 16 #[vf,.int .i64 r] w (Qy b F (A9 (As file) r))∧(A9 (As file) r).Az.length≤1037):=fun r F w q=>⟨UL file vf b r F w hf an q,by
  have h1:=J7 (V:=As file) (fun p n h=>EX h) r
  have:=h1.Az
  have:=h1.Ag
  omega⟩
 have h0:=Sat.AE (e:=Cb) (s:=1) hs
 haveI:=h0.i
 clear hB hn hf hs
 go_enter Tryz.func58,Tryz.ntmps58
 go_wp2_with fail
 go_loopg [7,6] n (fun g t7 t6 wr=> ∃(i k:Nat)(o:List Int)(z:Option Addr)(c2:Nat),t7= .int .i64 i∧t6= .slice z k c2∧i≤n∧k≤1037*i∧Aside (g=n-i∧o=LV (As file) (vl.take i)∧o.length=k∧ ∀u∈vl.take i,(A9 (As file) u.1).ok=true)∧Sat (rw Cb 1 (.slice z k c2) (ints o)*(b*(B*F))) wr)
 case atStart=>exact ⟨0,0,[],none,0,rfl,rfl,by omega,by omega,⟨rfl,rfl,rfl,by simp⟩,h0⟩
 obtain ⟨i,k,o,z,c2,rfl,rfl,hi,hk,A,q1⟩:=hrel
 clear h0
 haveI:=q1.i
 by_cases ap:i<n
 · have Y:(i:Int)<n:=by omega
   have bc:1037*i≤1037*64:=Nat.mul_le_mul_left _ (by omega)
   obtain ⟨⟨r,K8⟩,hp⟩: ∃p,vl[i]?=some p:=⟨_,List.getElem?_eq_getElem (by rw[HB.out.2];exact ap)⟩
   obtain ⟨b1,o1,al,r1⟩:=Aj.at HB.out.1 (i*2) (.int .i64 r) (Fb hp 0 (by omega))
   subst al
   have HP:=Ek hp
   have G:=fun F w q=>(HT.out r F w q).1
   obtain ⟨x,hx⟩:=Aq (A9 (As file) r)
   have HX:Aside (A9 (As file) r=x∧x.Az.length≤1037):=⟨hx,by rw[←hx];exact (HT.out r _ wr (q1.take b)).2⟩
   rw[hx] at G
   have O:=Ek G
   clear hp G hx
   go_wp2_with fail
   with_reducible refine Calls.mono (O.out _ _ (Ae b)) ?_
   rintro e w3 ⟨v6,G6,rfl,aj,q3⟩
   obtain ⟨vE,vP,rfl,R,l⟩:=aj
   obtain ⟨_,xP,P,rfl,U,ba,_⟩:=id l
   obtain ⟨xE,dE,rfl,Q,b9⟩:=R.v
   obtain ⟨xo,xh,xe,f⟩:=x
   have a0:=HX.out.2
   simp only at l U a0 Q
   obtain ⟨ne,D⟩:=Aq xe.length
   obtain ⟨np,t⟩:=Aq f.length
   have HI:Aside (Aj 1 G6 (.slice xP np P) np (QL f)∧f.length=np):=(by rw[←t];exact ⟨l,rfl⟩:_)
   simp only[t,D] at q3⊢
   rw[D] at Q
   rw[t] at U a0
   obtain ⟨T,hT⟩:=Aq w3.heap.size
   haveI:=q3.i
   clear R l t D O q1
   cases xo with
   | false =>
    have ag:Aside (∃u∈vl,(A9 (As file) u.1).ok=false):=⟨_,List.mem_of_getElem? HP.out,by rw[HX.out.1]⟩
    go_wp2
    go_ret2
    exact .inr ⟨ag.out,rfl,AD _ _ _⟩
   | true =>
    go_wp2_with fail
    have q4:Sat (rw Cb 1 (.slice z k c2) (ints ((f.take 0).foldl Cy o))*(Sl.block T NV [.bool true,.int .i64 xh,.slice xE ne dE,.slice xP np P]*(G6*(b*(B*F))))) (w3.alloc (.cells #[.bool true,.int .i64 xh,.slice xE ne dE,.slice xP np P] NV)):=by
     rw[←hT]
     show Sat (rw Cb 1 (.slice z k c2) (ints o)*_) _
     exact Av (by ac_rfl)
    try rw[hT]
    generalize w3.alloc (.cells #[.bool true,.int .i64 xh,.slice xE ne dE,.slice xP np P] NV)=wq at q4⊢
    clear hT q3 this
    haveI:=q4.i
    go_loopg [9,6] np (fun g t9 t6 wr=> ∃(j d:Nat)(I:Option Addr)(c3:Nat),t9= .int .i64 j∧t6= .slice I d c3∧j≤np∧d≤k+j∧Aside (g=np-j∧((f.take j).foldl Cy o).length=d)∧Sat (rw Cb 1 (.slice I d c3) (ints ((f.take j).foldl Cy o))*(Sl.block T NV [.bool true,.int .i64 xh,.slice xE ne dE,.slice xP np P]*(G6*(b*(B*F))))) wr)
    case atStart=>exact ⟨0,k,z,c2,rfl,rfl,by omega,by omega,⟨rfl,A.out.2.2.1⟩,q4⟩
    obtain ⟨j,d,I,c3,rfl,rfl,hj,bb,L,K⟩:=hrel
    clear q4
    haveI:=K.i
    by_cases ao:j<np
    · have X:(j:Int)<np:=by omega
      obtain ⟨y,hy⟩: ∃y,f[j]?=some y:=⟨_,List.getElem?_eq_getElem (by rw[HI.out.2];exact ao)⟩
      obtain ⟨b2,o2,am,r2⟩:=Aj.at HI.out.1 j (.int .i64 y) (by unfold QL;rw[List.getElem?_map,hy];rfl)
      subst am
      obtain ⟨H,a⟩:=Aq ((f.take j).foldl Cy o)
      have c:Aside ((f.take (j+1)).foldl Cy o=Cy H y∧H.length=d∧(Cy H y).length≤d+1):=⟨by rw[←a,List.take_add_one,hy,List.foldl_append];rfl,by rw[←a];exact L.out.2,by have:=RD H y;rw[←a,L.out.2] at this;rw[←a];exact this⟩
      rw[a] at K
      have hw:=fun F w q=>ZK I c3 H y F w q (by rw[c.out.2.1];omega)
      rw[c.out.2.1] at hw
      obtain ⟨k3,m⟩:=Aq ((Cy H y).length)
      have b3:k3≤d+1:=by rw[←m];exact c.out.2.2
      have af:=Ek m
      rw[m] at hw
      have HW:=Ek hw
      haveI:=K.i
      clear hy a hw m
      go_wp2_with fail
      with_reducible refine Calls.mono (HW.out _ _ (Ae (rw Cb 1 (.slice I d c3) (ints H)))) ?_
      rintro e w7 ⟨a7,c7,rfl,q7⟩
      haveI:=q7.i
      clear K
      go_wp2_with fail
      go_roundg (np-(j+1))
      case measure=>have:=L.out.1;omega
      case rel=>exact ⟨j+1,k3,a7,c7,by go_num,rfl,by omega,by omega,⟨rfl,by rw[c.out.1];exact af.out⟩,by rw[c.out.1];exact DE _ _ _ _ _⟩
    have X: ¬(j:Int)<np:=by omega
    obtain rfl:j=np:=by omega
    rw[List.take_of_length_le (by rw[HI.out.2];exact Nat.le_refl _)] at K
    have ad:Aside ((f.foldl Cy o).length=d):=by have:=L.out.2;rwa [List.take_of_length_le (by rw[HI.out.2];exact Nat.le_refl _)] at this
    haveI:=K.i
    clear L
    go_wp2_with fail
    go_roundg (n-(i+1))
    case measure=>have:=A.out.1;omega
    refine ⟨i+1,d,f.foldl Cy o,I,c3,by go_num,rfl,by omega,by omega,⟨rfl,?_,ad.out,?_⟩,Cx _ _ _ _⟩
    · rw[ZJ HP.out,HX.out.1,A.out.2.1]
    intro u J
    rw[AA HP.out] at J
    rcases List.mem_append.1 J with J|J
    · exact A.out.2.2.2 u J
    rw[List.mem_singleton.1 J,HX.out.1]
 have Y: ¬(i:Int)<n:=by omega
 obtain rfl:i=n:=by omega
 have Z:=List.take_of_length_le (by rw[HB.out.2];exact Nat.le_refl _)
 have M:Aside (o=LV (As file) vl∧o.length=k∧ ∀u∈vl,(A9 (As file) u.1).ok=true):=by
  have:=A.out
  rw[Z] at this
  exact this.2
 clear A Z
 go_wp2
 go_ret2
 refine .inl ⟨M.out.2.2,z,c2,by rw[←M.out.1,M.out.2.1];rfl,?_⟩
 rw[←M.out.1,M.out.2.1]
 exact Cx _ _ _ _
def Ev:List UInt8:= [97,98,10,99,100]
def E0:List UInt8:= [120]
def PQ(s:Ck)(p:Int):Option Nd:=if p<1 then none else match BH p s.CS with|some b=>CR p b|none=>none
def gX(r:Int)(s:TS):Bool:=decide (r=1)&&((s.ck.d.get FQ).isNone&&(decide ((s.ck.its.length:Int)<s.ck.cap)&&(decide (s.ck.CS.map (·.1)= [1])&&((A9 (PQ s.ck) 1).ok&&(decide ((A9 (PQ s.ck) 1).Az= [1])&&((A9 (PQ s.ck) 1).Ag.map fun e=>(e.src,e.pos,e.len,e.lines))== [(0,0,5,-1)])))))
theorem j6:(match DO [⟨0,0,5,-1⟩] (Mj Ev E0 7) with| .ok r s=>gX r s|_=>false)=true:=by kernel_rfl
theorem UG{p:Int}{b:List UInt8} : ∀{l:Tf},BH p l=some b→p∈l.map (·.1)
 | [],h=>by cases h
 | x :: l, h => by
  unfold BH at h
  split at h
  ·next e=>rw[e];simp
  exact List.mem_cons_of_mem _ (UG h)
theorem Iu{d:Dk}{nm n:ByteArray}(h:Db d nm)(a:Dk.named n=true)(hs:(d.get n).isSome=true):Db d n:=⟨h.down,h.Ge,a,by have:=h.nf;rw[hs];simp only[if_true];omega⟩
structure F' (s:TS) (V:Int→Option Nd):Prop where
 run:DO [⟨0,0,5,-1⟩] (Mj Ev E0 7)= .ok 1 s
 Qq:Dp V 60000000 s
 BU:Db s.ck.d EO∧Db s.ck.d EJ
 tree:A9 V 1=⟨true,(A9 V 1).Am,[⟨0,0,5,-1⟩],[1]⟩
 view: ∀p n,V p=some n→1≤p∧p<1048576∧may n=true∧p∈ [(1:Int)]
 mQ:Ay s.ck.d EO=Ev
theorem VT: ∃s V,F' s V:=by
 have J:=Tc Ev E0 7 (by decide) (by decide) (by omega) (by omega)
 have v:=V1 Ev E0 7
 have L:66000000≤AQ (Mj Ev E0 7):=by decide+kernel
 have a:=j6
 have hm:Bf [⟨0,0,5,-1⟩]=true:=by decide+kernel
 have z: ¬1024<(join [⟨0,0,5,-1⟩]).length:=by decide+kernel
 obtain ⟨r,s',hx,h1,M,O,P,I,Q⟩:=JK (Tz (Lr true) (s:=Mj Ev E0 7) J (T7 hm z)) (by show 2048≤CB _;rw[v];omega) (by show 2048≤AQ _;omega)
 have i:IU Al (join [⟨0,0,5,-1⟩]) (Mj Ev E0 7)= .ok r s':=hx
 have w:DO [⟨0,0,5,-1⟩] (Mj Ev E0 7)= .ok r s':=by unfold DO;rw[if_neg (by rw[hm];decide),if_neg z,i];rfl
 have c:=Ak.ok (Mc AZ Ld (join [⟨0,0,5,-1⟩])) i
 rw[w] at a
 unfold gX at a
 simp only[Bool.and_eq_true,decide_eq_true_eq] at a
 obtain ⟨rfl,B,D,G,k,l,m⟩:=a
 have j:s'.ck.d.get FQ=none:=by simpa using B
 have u:s'.ck.nm=FQ:=c.nm
 have f: ∀n,n≠FQ→s'.ck.d.get n=(Jk Ev E0).get n:=c.Je
 have y:s'.ck.d.get EO=some ⟨Ev,Ev,true⟩:=by rw[f EO jO.symm];exact hS _ _
 have K:s'.ck.d.get EJ=some ⟨E0,E0,true⟩:=by rw[f EJ jP.symm];exact hW _ _
 have g: ∀p n,PQ s'.ck p=some n→1≤p∧p<1048576∧may n=true∧p∈ [(1:Int)]:=by
  intro p n hp
  unfold PQ at hp
  split at hp
  · cases hp
  split at hp
  · next b hb=>
    have q:=UG hb
    rw[G] at q
    have e:p=1:=by simpa using q
    exact ⟨by omega,by omega,I6 hp,q⟩
  cases hp
 refine ⟨s',PQ s'.ck,w,⟨h1.ts,h1.Bo.pf,h1.Bo.BU.down,.inr ⟨by rw[u];exact j,D,fun p=>rfl⟩,by have:AQ (Mj Ev E0 7)≤AQ s'+(0+2048):=I;omega⟩,⟨Iu h1.Bo.BU (by decide+kernel) (by rw[y];rfl),Iu h1.Bo.BU (by decide+kernel) (by rw[K];rfl)⟩,?_,g,by unfold Ay;rw[y];rfl⟩
 obtain ⟨x,hx⟩: ∃x,A9 (PQ s'.ck) 1=x:=⟨_,rfl⟩
 rw[hx] at k l m⊢
 obtain ⟨ok,R,es,ps⟩:=x
 simp only at k l m
 have H:=eq_of_beq m
 have o:es= [⟨0,0,5,-1⟩]:=by
  have e:(es.map fun e:Ar=>(e.src,e.pos,e.len,e.lines)).map (fun t:Int×Int×Int×Int=>(⟨t.1,t.2.1,t.2.2.1,t.2.2.2⟩:Ar))=es:=by
   rw[List.map_map]
   exact List.map_id'' (fun _=>rfl) es
  rw[H] at e
  exact e.symm
 rw[k,l,o]
end Go.Proofs.YtfhbmblbidcmmaaGreat
namespace Go.Tr
theorem Gg(x:Ar)(l:List Ar)(n:Int):first (x::l) n=if x.len≤n then (x::(first l (n-x.len)).1,(first l (n-x.len)).2)
 else if n≤0 then ((first l (n-x.len)).1,x::(first l (n-x.len)).2)
 else (CJ x 0 n::(first l (n-x.len)).1,CJ x n (x.len-n)::(first l (n-x.len)).2):=by rw[first]
theorem O8(y:Ar): ∀(l:List Ar)(n:Int),first (l++ [y]) n=((first l n).1++(first [y] (n-Aa l)).1,(first l n).2++(first [y] (n-Aa l)).2)
 | [],n=>by simp[first,Aa]
 | x :: l, n => by
  have h:=O8 y l (n-x.len)
  have e:n-x.len-Aa l=n-Aa (x::l):=by
   have:Aa (x::l)=x.len+Aa l:=by simp[Aa]
   omega
  rw[e] at h
  rw[List.cons_append,Gg x (l++ [y]) n,h,Gg x l n]
  generalize first [y] (n-Aa (x::l))=f
  split
  · rfl
  split<;>rfl
theorem YL(x:Ar)(n:Int):first [x] n=if x.len≤n then ([x],[]) else if n≤0 then ([],[x]) else ([CJ x 0 n],[CJ x n (x.len-n)]):=by
 rw[first]
 simp only[first]
theorem Mu(l:List Ar)(n:Int):(first l n).1.length≤l.length∧(first l n).2.length≤l.length:=by
 induction l generalizing n with
 |nil=>simp[first]
 | cons x l a =>
  have:=a (n-x.len)
  rw[first]
  split
  ·simp;omega
  split
  ·simp;omega
  simp;omega
end Go.Tr
namespace Go.Proofs.YtfhbmblbidcmmaaGreat
open Go.RowKit Go.Sl Go.Dk Go.Tr
theorem PA(l:List Ar)(f:Int)(v:Value)(B F:Ab)(w:World)(hE:Au B v l)(hs:Sat (B*F) w)(hl:l.length≤65536)(hm: ∀x∈l,Ai x=true)(h0: -1099511627776≤f)(h1:f≤1099511627776):
 Calls Tryz.prog 106 #[v,.int .i64 f] w fun e w'=> ∃a c a' H,e= .returned (.tuple #[.slice a (first l f).1.length c,.slice a' (first l f).2.length H])∧
  Sat (rw AG 4 (.slice a (first l f).1.length c) (AO (first l f).1)*(rw AG 4 (.slice a' (first l f).2.length H) (AO (first l f).2)*(B*F))) w':=by
 obtain ⟨i0,E⟩:=EW
 obtain ⟨a0,c0,rfl,a7,am⟩:=hE.v
 have HL:Aside (Au B (.slice a0 l.length c0) l):=hE
 have HM:Aside (∀x∈l,Ai x=true):=hm
 have HB:Aside (∀i:Nat,0≤Aa (l.take i)∧Aa (l.take i)≤i*1048576):=Dd fun x hx=>by have:=Cq (hm x hx);omega
 have a3:Aside (∀i,(first (l.take i) f).1.length≤i∧(first (l.take i) f).2.length≤i):=fun i=>by
  have:=Mu (l.take i) f
  have h2:(l.take i).length≤i:=by rw[List.length_take];omega
  omega
 obtain ⟨D,M⟩:=Aq l.length
 have a4:Aside (l.length=D):=M
 have HR:Aside (first l f=first (l.take D) f):=(by rw[←M,List.take_length]:first l f=first (l.take D) f)
 rw[M] at hl a7⊢
 obtain ⟨R,U⟩:=Aq (first l f)
 rw[U]
 have a5:Aside (first l f=R):=U
 have q0:=hs.AE (e:=AG) (s:=4)|>.AE (e:=AG) (s:=4)
 haveI:=hs.i
 clear hE hm M U
 go_enter Tryz.func106,Tryz.ntmps106
 go_wp2
 go_loopg [1,6,7,8] D (fun g t1 t6 t7 t8 wr=> ∃(j:Nat)(L R:List Ar)(a:Option Addr)(c:Nat)(a':Option Addr)(H:Nat),t8= .int .i64 j∧t1= .int .i64 (f-Aa (l.take j))∧t6= .slice a L.length c∧t7= .slice a' R.length H∧j≤D∧L.length≤65536∧R.length≤65536∧Aside (g=D-j∧L=(first (l.take j) f).1∧R=(first (l.take j) f).2)∧
  Sat (rw AG 4 (.slice a L.length c) (AO L)*(rw AG 4 (.slice a' R.length H) (AO R)*(B*F))) wr)
 case atStart=>exact ⟨0,[],[],none,0,none,0,rfl,by simp[Aa],rfl,rfl,by omega,by simp,by simp,⟨rfl,by simp[first],by simp[first]⟩,q0⟩
 obtain ⟨j,L,R',a,c,a',H,rfl,rfl,rfl,rfl,hj,hL,U,J,O⟩:=hrel
 clear q0 hs this
 haveI:=O.i
 by_cases ao:j<D
 · have X:(j:Int)<D:=by omega
   obtain ⟨y,hy⟩: ∃y,l[j]?=some y:=⟨_,List.getElem?_eq_getElem (by have:=a4.out;omega)⟩
   obtain ⟨b,q,rfl,r1,r2,r3,r4⟩:=BN HL.out hy
   have d:=O8 y (l.take j) f
   rw[←AA hy,←J.out.2.1,←J.out.2.2,YL] at d
   have V:=BZ hy
   have ab:=Cl.1 (HM.out y (List.mem_of_getElem? hy))
   have aa:=HB.out j
   have K:=a3.out (j+1)
   obtain ⟨z,hz⟩:=Aq (f-Aa (l.take j))
   rw[hz] at d⊢
   have Y:f-Aa (l.take (j+1))=z-y.len:=by rw[V];omega
   have ap: -1168231104512≤z∧z≤1168231104512:=by omega
   obtain ⟨k,hk⟩:=Aq (first (l.take (j+1)) f)
   rw[hk] at K
   have o:Aside (first (l.take (j+1)) f=k∧k.1.length≤j+1∧k.2.length≤j+1∧f-Aa (l.take (j+1))=z-y.len):=⟨hk,K.1,K.2,Y⟩
   rw[hk] at d
   obtain ⟨n,m,p,G⟩:=y
   simp only at r1 r2 r3 r4 ab d o
   have hw1:=Bg (z-p) (by omega)
   clear hy V aa K hz Y hk
   by_cases c1:p≤z
   · rw[if_pos c1] at d
     have t:Aside (k=(L++ [⟨n,m,p,G⟩],R'++ [])):=d
     clear d
     go_wp2_with (at_builtin;refine Af E rfl (.tmp 26) (.tmp 28) rfl rfl rfl (Ae (rw AG 4 (.slice a L.length c) (AO L))) (Src.new (b:=wr.heap.size+1) (e:=AG) (s:=4) (vs:= [.int .i64 n,.int .i64 m,.int .i64 p,.int .i64 G]) (Ae _) rfl (by intro u r;simp at r;rcases r with rfl|rfl|rfl|rfl<;>rfl)) (by unfold maxLen;omega) (by omega) ?_;intro I c9 Z P Q;clear Q;haveI:=P.i)
     go_roundg (D-(j+1))
     case measure=>have:=J.out.1;omega
     refine ⟨j+1,L++ [⟨n,m,p,G⟩],R',I,c9,a',H,by go_num,by rw[o.out.2.2.2],?_,rfl,by omega,?_,U,⟨rfl,?_,?_⟩,?_⟩
     ·rw[List.length_append];rfl
     ·have:=o.out.2.1;rw[t.out] at this;simp only at this;omega
     ·rw[o.out.1,t.out]
     ·rw[o.out.1,t.out,List.append_nil]
     rw[Dv,List.length_append]
     show Sat (rw AG 4 (.slice I (L.length+1) c9) (AO L++ [.int .i64 n,.int .i64 m,.int .i64 p,.int .i64 G])*(rw AG 4 (.slice a' R'.length H) (AO R')*(B*F))) _
     exact Cx _ _ _ _
   rw[if_neg c1] at d
   by_cases c2:z≤0
   · rw[if_pos c2] at d
     have t:Aside (k=(L++ [],R'++ [⟨n,m,p,G⟩])):=d
     clear d
     go_wp2_with (at_builtin;refine Af E rfl (.tmp 32) (.tmp 34) rfl rfl rfl (Ae (rw AG 4 (.slice a' R'.length H) (AO R'))) (Src.new (b:=wr.heap.size+1) (e:=AG) (s:=4) (vs:= [.int .i64 n,.int .i64 m,.int .i64 p,.int .i64 G]) (Ae _) rfl (by intro u r;simp at r;rcases r with rfl|rfl|rfl|rfl<;>rfl)) (by unfold maxLen;omega) (by omega) ?_;intro I c9 Z P Q;clear Q;haveI:=P.i)
     go_roundg (D-(j+1))
     case measure=>have:=J.out.1;omega
     refine ⟨j+1,L,R'++ [⟨n,m,p,G⟩],a,c,I,c9,by go_num,by rw[o.out.2.2.2],rfl,?_,by omega,hL,?_,⟨rfl,?_,?_⟩,?_⟩
     ·rw[List.length_append];rfl
     ·have:=o.out.2.2.1;rw[t.out] at this;simp only at this;omega
     ·rw[o.out.1,t.out,List.append_nil]
     ·rw[o.out.1,t.out]
     rw[Dv,List.length_append]
     show Sat (rw AG 4 (.slice a L.length c) (AO L)*(rw AG 4 (.slice I (R'.length+1) c9) (AO R'++ [.int .i64 n,.int .i64 m,.int .i64 p,.int .i64 G])*(B*F))) _
     exact Cx _ _ _ _
   rw[if_neg c2] at d
   have hw2:=Bg (m+z) (by omega)
   have hw3:=Bg (p-z) (by omega)
   have t:Aside (k=(L++ [⟨n,m,z,if G=0 then 0 else-1⟩],R'++ [⟨n,m+z,p-z,if G=0 then 0 else-1⟩])):=by
    rw[d]
    unfold Tr.CJ
    simp only[Int.add_zero]
    exact (trivial:True)
   clear d
   by_cases c3:G=0
   · subst c3
     go_wp2_with (first|(at_builtin;refine Af E rfl (.tmp 39) (.tmp 50) rfl rfl rfl (Ae (rw AG 4 (.slice a L.length c) (AO L))) (Src.new (b:=wr.heap.size+1) (e:=AG) (s:=4) (vs:= [.int .i64 n,.int .i64 m,.int .i64 z,.int .i64 (0)]) (Ae _) rfl (by intro u r;simp at r;rcases r with rfl|rfl|rfl|rfl<;>rfl)) (by unfold maxLen;omega) (by omega) ?_;intro I c9 Z P Q;clear Q;haveI:=P.i)|(at_builtin;refine Af E rfl (.tmp 52) (.tmp 69) rfl rfl rfl (Ae (rw AG 4 (.slice a' R'.length H) (AO R'))) (Src.new (b:=Z.heap.size) (e:=AG) (s:=4) (vs:= [.int .i64 n,.int .i64 (m+z),.int .i64 (p-z),.int .i64 (0)]) (Ae _) rfl (by intro u r;simp at r;rcases r with rfl|rfl|rfl|rfl<;>rfl)) (by unfold maxLen;omega) (by omega) ?_;intro T c8 w8 q8 z8;clear z8;haveI:=q8.i))
     go_roundg (D-(j+1))
     case measure=>have:=J.out.1;omega
     refine ⟨j+1,L++ [⟨n,m,z,0⟩],R'++ [⟨n,m+z,p-z,0⟩],I,c9,T,c8,by go_num,by rw[o.out.2.2.2],?_,?_,by omega,?_,?_,⟨rfl,?_,?_⟩,?_⟩
     ·rw[List.length_append];rfl
     ·rw[List.length_append];rfl
     ·have:=o.out.2.1;rw[t.out] at this;simp only[List.length_append,List.length_singleton] at this⊢;omega
     ·have:=o.out.2.2.1;rw[t.out] at this;simp only[List.length_append,List.length_singleton] at this⊢;omega
     ·rw[o.out.1,t.out];simp
     ·rw[o.out.1,t.out];simp
     rw[Dv,Dv,List.length_append,List.length_append]
     show Sat (rw AG 4 (.slice I (L.length+1) c9) (AO L++ [.int .i64 n,.int .i64 m,.int .i64 z,.int .i64 (0)])*(rw AG 4 (.slice T (R'.length+1) c8) (AO R'++ [.int .i64 n,.int .i64 (m+z),.int .i64 (p-z),.int .i64 (0)])*(B*F))) _
     exact Cx _ _ _ _
   have c4:(G==0)=false:=by simp[c3]
   have C3:Aside (¬G=0):=c3
   go_wp2_with (first|(at_builtin;refine Af E rfl (.tmp 39) (.tmp 50) rfl rfl rfl (Ae (rw AG 4 (.slice a L.length c) (AO L))) (Src.new (b:=wr.heap.size+1) (e:=AG) (s:=4) (vs:= [.int .i64 n,.int .i64 m,.int .i64 z,.int .i64 (-1)]) (Ae _) rfl (by intro u r;simp at r;rcases r with rfl|rfl|rfl|rfl<;>rfl)) (by unfold maxLen;omega) (by omega) ?_;intro I c9 Z P Q;clear Q;haveI:=P.i)|(at_builtin;refine Af E rfl (.tmp 52) (.tmp 69) rfl rfl rfl (Ae (rw AG 4 (.slice a' R'.length H) (AO R'))) (Src.new (b:=Z.heap.size) (e:=AG) (s:=4) (vs:= [.int .i64 n,.int .i64 (m+z),.int .i64 (p-z),.int .i64 (-1)]) (Ae _) rfl (by intro u r;simp at r;rcases r with rfl|rfl|rfl|rfl<;>rfl)) (by unfold maxLen;omega) (by omega) ?_;intro T c8 w8 q8 z8;clear z8;haveI:=q8.i))
   go_roundg (D-(j+1))
   case measure=>have:=J.out.1;omega
   refine ⟨j+1,L++ [⟨n,m,z,-1⟩],R'++ [⟨n,m+z,p-z,-1⟩],I,c9,T,c8,by go_num,by rw[o.out.2.2.2],?_,?_,by omega,?_,?_,⟨rfl,?_,?_⟩,?_⟩
   · rw[List.length_append];rfl
   · rw[List.length_append];rfl
   · have:=o.out.2.1;rw[t.out] at this;simp only[List.length_append,List.length_singleton] at this⊢;omega
   · have:=o.out.2.2.1;rw[t.out] at this;simp only[List.length_append,List.length_singleton] at this⊢;omega
   · rw[o.out.1,t.out];simp[C3.out]
   · rw[o.out.1,t.out];simp[C3.out]
   rw[Dv,Dv,List.length_append,List.length_append]
   show Sat (rw AG 4 (.slice I (L.length+1) c9) (AO L++ [.int .i64 n,.int .i64 m,.int .i64 z,.int .i64 (-1)])*(rw AG 4 (.slice T (R'.length+1) c8) (AO R'++ [.int .i64 n,.int .i64 (m+z),.int .i64 (p-z),.int .i64 (-1)])*(B*F))) _
   exact Cx _ _ _ _
 have X: ¬(j:Int)<D:=by omega
 have W:j=D:=by omega
 have HF:Aside (L=R.1∧R'=R.2):=(by rw[J.out.2.1,J.out.2.2,W,←HR.out,a5.out];exact ⟨rfl,rfl⟩:_∧_)
 clear W
 go_wp2
 go_ret2
 rw[HF.out.1,HF.out.2] at O
 exact ⟨a,c,a',H,by rw[HF.out.1,HF.out.2];rfl,O⟩
