/- censusSound holds for every input. No condition. (part 46) -/
import Derived.Test.YtfhbmblbidcmmaaGreatWa41
import Derived.Test.YtfhbmblbidcmmaaGreatWa45
set_option linter.all false
set_option maxRecDepth 1000000
set_option maxHeartbeats 6400000
namespace Go.Dr
open Go
theorem k1{P:Program} {ops:Array Oper} {Q:Exit→Act→World→Prop} {md:Region.Mode} {S:World→Prop} {bar:List Nat}(i:Nat){e:Oper}{d:Nat}{b:Array Bool}{a a':Act}{w:World}(h:EK P md ops Q S bar d (b.setIfInBounds i true) a' w)
 (hi:ops[i]?=some e:=by simp only[List.getElem?_toArray,List.getElem?_cons_succ,List.getElem?_cons_zero];rfl)(f:aZ md ops b i=true:=by kernel_rfl)(k: ∀c a w,Q (.panic c) (a.put e.dst undef) w→Q (.panic c) a w:=by exact fun _ _ _ h=>h)
 (hw:Region.wanted e (yielded ops a.tmps)=false:=by rfl)(ha:a.put e.dst undef=a':=by simp only[Act.put,List.setIfInBounds_toArray,List.set_cons_zero,List.set_cons_succ];rfl):EK P md ops Q S bar (d+1) b a w:=by
 subst ha
 exact Am i hi f k (.inr ⟨hw,rfl⟩) h
theorem k2{P:Program} {ops:Array Oper} {Q:Exit→Act→World→Prop} {md:Region.Mode} {S:World→Prop} {bar:List Nat}(i:Nat){e:Oper}{v:Value}{d:Nat}{b:Array Bool}{a a':Act}{w:World}(h:EK P md ops Q S bar d (b.setIfInBounds i true) a' w)
 (hi:ops[i]?=some e:=by simp only[List.getElem?_toArray,List.getElem?_cons_succ,List.getElem?_cons_zero];rfl)(f:aZ md ops b i=true:=by kernel_rfl)
 (hw:Region.wanted e (yielded ops a.tmps)=true:=by rfl)(hy: ∀w,(execOp a.eval e).run P w= .ok (.value v) w:=by intro d;go_simp;try (with_reducible rfl))(k: ∀c a w,Q (.panic c) (a.put e.dst v) w→Q (.panic c) a w:=by exact fun _ _ _ h=>h)(ha:a.put e.dst v=a':=by simp only[Act.put,List.setIfInBounds_toArray,List.set_cons_zero,List.set_cons_succ];rfl):EK P md ops Q S bar (d+1) b a w:=by
 subst ha
 exact Am i hi f k (.inl ⟨hw,hy⟩) h
theorem k3{P:Program} {ops:Array Oper} {Q:Exit→Act→World→Prop} {md:Region.Mode} {S:World→Prop} {bar:List Nat}(i:Nat){e:Oper}{v:Value}{d:Nat}{b:Array Bool}{a a':Act}{w:World}(y:S w)(h:EK P md ops Q S bar d (b.setIfInBounds i true) a' w)
 (hi:ops[i]?=some e:=by simp only[List.getElem?_toArray,List.getElem?_cons_succ,List.getElem?_cons_zero];rfl)(f:cH md ops bar b i=true:=by kernel_rfl)
 (hw:Region.wanted e (yielded ops a.tmps)=true:=by rfl)(hy: ∀w,S w→(execOp a.eval e).run P w= .ok (.value v) w:=by intro d hw;(try dsimp only at hw);go_simp;try (with_reducible rfl))(k: ∀c a w,Q (.panic c) (a.put e.dst v) w→Q (.panic c) a w:=by exact fun _ _ _ h=>h)(ha:a.put e.dst v=a':=by simp only[Act.put,List.setIfInBounds_toArray,List.set_cons_zero,List.set_cons_succ];rfl):EK P md ops Q S bar (d+1) b a w:=by
 subst ha
 exact Dy i hi f k (.inl ⟨hw,hy⟩) y h
end Go.Dr
namespace Go.Proofs.YtfhbmblbidcmmaaGreat
open Go.RowKit Go.Sl Go.Dk Go.Tr
theorem Rs: ∀{a b:List Int},a.Pairwise (· < ·)→b.Pairwise (· < ·)→(∀x,x∈a↔x∈b)→a=b
 | [],[],_,_,_=>rfl
 | [],y::b,_,_,h=>by have:=(h y).2 List.mem_cons_self;cases this
 |x::a,[],_,_,h=>by have:=(h x).1 List.mem_cons_self;cases this
 | x :: a, y :: b, ha, hb, h => by
  obtain ⟨h1,g⟩:=List.pairwise_cons.1 ha
  obtain ⟨f,i⟩:=List.pairwise_cons.1 hb
  have e:x=y:=by
   rcases List.mem_cons.1 ((h x).1 List.mem_cons_self) with e|e
   · exact e
   rcases List.mem_cons.1 ((h y).2 List.mem_cons_self) with d|d
   · exact d.symm
   have:=h1 y d;have:=f x e;omega
  subst e
  rw[Rs g i fun z=>?_]
  constructor
  · intro c
    rcases List.mem_cons.1 ((h z).1 (List.mem_cons_of_mem _ c)) with e|e
    · have:=h1 z c;omega
    exact e
  intro c
  rcases List.mem_cons.1 ((h z).2 (List.mem_cons_of_mem _ c)) with e|e
  · have:=f z c;omega
  exact e
def Eu:List UInt8:= [97,98,10,99,100]
def Ez:List UInt8:= [120]
def PK(s:Ck)(p:Int):Option Nd:=if p<1 then none else match BI p s.CV with|some b=>CU p b|none=>none
def gG(r:Int)(s:TS):Bool:=decide (r=1)&&((s.ck.d.get FM).isNone&&(decide ((s.ck.its.length:Int)<s.ck.cap)&&(decide (s.ck.CV.map (·.1)= [1])&&((AJ (PK s.ck) 1).ok&&(decide ((AJ (PK s.ck) 1).A7= [1])&&((AJ (PK s.ck) 1).Ag.map fun e=>(e.src,e.pos,e.len,e.lines))== [(0,0,5,-1)])))))
theorem K':(match DM [⟨0,0,5,-1⟩] (Mj Eu Ez 7) with| .ok r s=>gG r s|_=>false)=true:=by kernel_rfl
theorem U6{p:Int}{b:List UInt8} : ∀{l:SY},BI p l=some b→p∈l.map (·.1)
 | [],h=>by cases h
 | x :: l, h => by
  unfold BI at h
  split at h
  ·next e=>rw[e];simp
  exact List.mem_cons_of_mem _ (U6 h)
theorem Iy{d:Dk}{nm n:ByteArray}(h:Da d nm)(a:Dk.named n=true)(hs:(d.get n).isSome=true):Da d n:=⟨h.down,h.FZ,a,by have:=h.nf;rw[hs];simp only[if_true];omega⟩
structure dC (s:TS) (V:Int→Option Nd):Prop where
 run:DM [⟨0,0,5,-1⟩] (Mj Eu Ez 7)= .ok 1 s
 Qi:D2 V 60000000 s
 BU:Da s.ck.d EH∧Da s.ck.d E7
 tree:AJ V 1=⟨true,(AJ V 1).Al,[⟨0,0,5,-1⟩],[1]⟩
 view: ∀p n,V p=some n→1≤p∧p<1048576∧may n=true∧p∈ [(1:Int)]
 mC:A0 s.ck.d EH=Eu
theorem VJ: ∃s V,dC s V:=by
 have J:=SS Eu Ez 7 (by decide) (by decide) (by omega) (by omega)
 have v:=Vq Eu Ez 7
 have L:66000000≤AM (Mj Eu Ez 7):=by decide+kernel
 have a:=K'
 have hm:Bk [⟨0,0,5,-1⟩]=true:=by decide+kernel
 have z: ¬1024<(join [⟨0,0,5,-1⟩]).length:=by decide+kernel
 obtain ⟨r,s',hx,h1,M,O,P,I,Q⟩:=JO (Ts (Lu true) (s:=Mj Eu Ez 7) J (T1 hm z)) (by show 2048≤CB _;rw[v];omega) (by show 2048≤AM _;omega)
 have i:Ja An (join [⟨0,0,5,-1⟩]) (Mj Eu Ez 7)= .ok r s':=hx
 have w:DM [⟨0,0,5,-1⟩] (Mj Eu Ez 7)= .ok r s':=by unfold DM;rw[if_neg (by rw[hm];decide),if_neg z,i];rfl
 have c:=Aj.ok (Me AW Ld (join [⟨0,0,5,-1⟩])) i
 rw[w] at a
 unfold gG at a
 simp only[Bool.and_eq_true,decide_eq_true_eq] at a
 obtain ⟨rfl,B,D,G,k,l,m⟩:=a
 have j:s'.ck.d.get FM=none:=by simpa using B
 have u:s'.ck.nm=FM:=c.nm
 have f: ∀n,n≠FM→s'.ck.d.get n=(Jr Eu Ez).get n:=c.Jk
 have y:s'.ck.d.get EH=some ⟨Eu,Eu,true⟩:=by rw[f EH jA.symm];exact gK _ _
 have K:s'.ck.d.get E7=some ⟨Ez,Ez,true⟩:=by rw[f E7 jB.symm];exact gL _ _
 have g: ∀p n,PK s'.ck p=some n→1≤p∧p<1048576∧may n=true∧p∈ [(1:Int)]:=by
  intro p n hp
  unfold PK at hp
  split at hp
  · cases hp
  split at hp
  · next b hb=>
    have q:=U6 hb
    rw[G] at q
    have e:p=1:=by simpa using q
    exact ⟨by omega,by omega,IB hp,q⟩
  cases hp
 refine ⟨s',PK s'.ck,w,⟨h1.ts,h1.Bn.pf,h1.Bn.BU.down,.inr ⟨by rw[u];exact j,D,fun p=>rfl⟩,by have:AM (Mj Eu Ez 7)≤AM s'+(0+2048):=I;omega⟩,⟨Iy h1.Bn.BU (by decide+kernel) (by rw[y];rfl),Iy h1.Bn.BU (by decide+kernel) (by rw[K];rfl)⟩,?_,g,by unfold A0;rw[y];rfl⟩
 obtain ⟨x,hx⟩: ∃x,AJ (PK s'.ck) 1=x:=⟨_,rfl⟩
 rw[hx] at k l m⊢
 obtain ⟨ok,R,es,ps⟩:=x
 simp only at k l m
 have H:=eq_of_beq m
 have o:es= [⟨0,0,5,-1⟩]:=by
  have e:(es.map fun e:Av=>(e.src,e.pos,e.len,e.lines)).map (fun t:Int×Int×Int×Int=>(⟨t.1,t.2.1,t.2.2.1,t.2.2.2⟩:Av))=es:=by
   rw[List.map_map]
   exact List.map_id'' (fun _=>rfl) es
  rw[H] at e
  exact e.symm
 rw[k,l,o]
def D1(O T:List UInt8)(src:Int):List UInt8:=if src=0 then O else T
def Dj(V:Int→Option Nd)(C:Int→List UInt8)(v:Int×Int):Bool:=(AJ V v.1).ok&&(decide (Aa (AJ V v.1).Ag=v.2)&&(AJ V v.1).Ag.all fun x=>BP (C x.src) x)
theorem G0{vl:List (Int×Int)}{f:Int×Int→Bool}{i:Nat}{v:Int×Int}(h:vl[i]?=some v)(a:f v=false):vl.all f=false:=by
 cases e:vl.all f with
 |false=>rfl
 |true=>rw[List.all_eq_true.1 e _ (List.mem_of_getElem? h)] at a;cases a
theorem Hg{l:List Av}{f:Av→Bool}{i:Nat}{v:Av}(h:l[i]?=some v)(a:f v=false):l.all f=false:=by
 cases e:l.all f with
 |false=>rfl
 |true=>rw[List.all_eq_true.1 e _ (List.mem_of_getElem? h)] at a;cases a
theorem SD(file O T : List UInt8)(vf v : Value)(aO : Option Addr)(U cO : Nat)(aT : Option Addr)(W cT : Nat)(vl : List (Int × Int))(M B l F : Ab)(w : World)(hf : Reads M vf file)(c4 : file.length ≤ 1099511627776)(hO : Reads l (.slice aO U cO) O)(hT : Reads l (.slice aT W cT) T)(b9 : O.length = U)(bb : T.length = W)(cy : U ≤ 3000)(cz : W ≤ 3000)(hB : Ai 2 B v vl.length (B9 vl))(hl : vl.length ≤ 64)(hs : Sat (M * (B * (l * F))) w) :
 Calls Tryz.prog 61 #[vf,v,.slice aO U cO,.slice aT W cT] w fun e d=>e= .returned (.bool (vl.all (Dj (Aw file) (D1 O T))))∧Sat (M*(B*(l*F))) d:=by
 obtain ⟨_,av,cv,rfl,bc,ck,_⟩:=id hB
 obtain ⟨cg,ch⟩:U≤cO∧cO≤9223372036854775807:=by
  obtain ⟨_,_,e0,h1,h2⟩:=IL hO (hs.take l)
  cases e0
  exact ⟨by omega,h2⟩
 obtain ⟨ci,cj⟩:W≤cT∧cT≤9223372036854775807:=by
  obtain ⟨_,_,e0,h1,h2⟩:=IL hT (hs.take l)
  cases e0
  exact ⟨by omega,h2⟩
 obtain ⟨n,hn⟩:=Aq vl.length
 have HB:Aside (Ai 2 B (.slice av n cv) n (B9 vl)∧vl.length=n):=(by rw[←hn];exact ⟨hB,rfl⟩:_)
 rw[hn] at hl bc⊢
 have HT:Aside (∀(r:Int) F w,Sat (M*F) w→Calls Tryz.prog 16 #[vf,.int .i64 r] w (Tc M F (AJ (Aw file) r))∧RC true 13 (AJ (Aw file) r)):=fun r F w q=>⟨UB file vf M r F w hf c4 q,LW (V:=Aw file) (fun p n h=>FJ h) r⟩
 have a6:Aside (Reads l (.slice aO U cO) O∧O.length=U∧Reads l (.slice aT W cT) T∧T.length=W):=⟨hO,b9,hT,bb⟩
 haveI:=hs.i
 have h0:=hs
 clear hB hn hf hs hO hT b9 bb
 go_enter Tryz.func61,Tryz.ntmps61
 go_wp2_with fail
 go_loopg [9] n (fun g t9 wr=> ∃(i:Nat),t9= .int .i64 i∧i≤n∧Aside (g=n-i∧ ∀u∈vl.take i,Dj (Aw file) (D1 O T) u=true)∧Sat (M*(B*(l*F))) wr)
 case atStart=>exact ⟨0,rfl,by omega,⟨rfl,by simp⟩,h0⟩
 obtain ⟨i,rfl,hi,A,q1⟩:=hrel
 clear h0
 haveI:=q1.i
 by_cases c6:i<n
 · have be : (i : Int) < n := by omega
   obtain ⟨⟨r,Hi⟩,hp⟩: ∃p,vl[i]?=some p:=⟨_,List.getElem?_eq_getElem (by rw[HB.out.2];exact c6)⟩
   obtain ⟨b1,o1,c1,r1⟩:=Ai.at HB.out.1 (i*2) (.int .i64 r) (EJ hp 0 (by omega))
   obtain ⟨b2,o2,c2,r2⟩:=Ai.at HB.out.1 (i*2+1) (.int .i64 Hi) (EJ hp 1 (by omega))
   subst c1
   cases c2
   have HP:=As hp
   have au:=fun F w q=>(HT.out r F w q).1
   have aq:=(HT.out r _ wr (q1.take M)).2
   have aw:Dj (Aw file) (D1 O T) (r,Hi)=((AJ (Aw file) r).ok&&(decide (Aa (AJ (Aw file) r).Ag=Hi)&&(AJ (Aw file) r).Ag.all fun x=>BP (D1 O T x.src) x)):=rfl
   obtain ⟨x,hx⟩:=Aq (AJ (Aw file) r)
   rw[hx] at au aq aw
   have b3:=As au
   have az:=As aq
   have ai:=As aw
   clear hp au hx aq aw
   go_wp2_with fail
   with_reducible refine Calls.mono (b3.out _ _ (Ae M)) ?_
   rintro e w3 ⟨v6,D,rfl,bx,q3⟩
   obtain ⟨vE,vP,rfl,ab,an⟩:=bx
   obtain ⟨I,H,rfl,c0,cx⟩:=an.v
   obtain ⟨Z,j,rfl,b8,cw⟩:=ab.v
   obtain ⟨xo,J,X,xp⟩:=x
   simp only at an c0 ab b8
   obtain ⟨ne,ac⟩:=Aq X.length
   obtain ⟨np,bg⟩:=Aq xp.length
   have HE:Aside (A1 D (.slice Z X.length j) X∧X.length=ne∧ne≤1036∧ ∀x∈X,Ah x=true):=⟨ab,ac,by have:=az.out.Ag;simp only at this;omega,az.out.may⟩
   simp only[bg,ac] at q3⊢
   rw[ac] at b8
   have cm:=HE.out.2.2.1
   obtain ⟨T0,Y⟩:=Aq w3.heap.size
   have ad:=fun(m:Nat)(hT:w3.heap.size=m)=>(show Sat (Sl.block m Je [.bool xo,.int .i64 J,.slice Z ne j,.slice I np H]*(D*(M*(B*(l*F))))) (w3.alloc (.cells #[.bool xo,.int .i64 J,.slice Z ne j,.slice I np H] Je)) by
    haveI:=q3.i
    rw[←hT]
    exact Ap (by ac_rfl))
   haveI:=q3.i
   clear ab an bg ac b3 q1
   obtain ⟨z,hz⟩:=Aq (Aa X)
   cases xo with
   | false =>
     have ah:Aside (vl.all (Dj (Aw file) (D1 O T))=false):=G0 HP.out (by rw[ai.out];rfl)
     go_wp2_with fail
     try rw[Y]
     have q4:=ad T0 Y
     generalize w3.alloc (.cells #[.bool false,.int .i64 J,.slice Z ne j,.slice I np H] Je)=wq at q4⊢
     clear Y ad q3 this
     haveI:=q4.i
     go_region
     go_wp2
     go_ret
     exact ⟨by rw[ah.out];rfl,Ax (C:=Sl.block T0 Je [.bool false,.int .i64 J,.slice Z ne j,.slice I np H]*D) (by ac_rfl)⟩
   | true =>
     have a0:Aside (Dj (Aw file) (D1 O T) (r,Hi)=(decide (z=Hi)&&X.all fun x=>BP (D1 O T x.src) x)):=by
      show _=_
      rw[ai.out,←hz]
      rfl
     have b0:Aside (∀F w,Sat (D*F) w→Calls Tryz.prog 31 #[.slice Z ne j] w fun e d=>e= .returned (.int .i64 z)∧Sat (D*F) d):=fun F w q=>by
      have h1:=HE.out.1
      rw[HE.out.2.1] at h1
      rw[←hz]
      exact Ie X (.slice Z ne j) D F w h1 q (by rw[HE.out.2.1];omega) (fun x hx=>by have:=Ca (HE.out.2.2.2 x hx);omega)
     clear ai hz
     go_wp2_with fail
     try rw[Y]
     have q4:=ad T0 Y
     generalize w3.alloc (.cells #[.bool true,.int .i64 J,.slice Z ne j,.slice I np H] Je)=wq at q4⊢
     obtain ⟨m,rfl⟩: ∃m,m=T0:=⟨_,rfl⟩
     clear Y ad q3 this
     haveI:=q4.i
     go_cut [40] (fun cc wx=>cc= .bool (z !=Hi)∧Sat (Sl.block m Je [.bool true,.int .i64 J,.slice Z ne j,.slice I np H]*(D*(M*(B*(l*F))))) wx)
     case first=>
      go_region_held3 (fun d=>d.cell? ⟨m,0,none⟩=some (.bool true)∧d.cell? ⟨m,2,none⟩=some (.slice Z ne j)∧d.cell? ⟨b1,o1+i*2+1,none⟩=some (.int .i64 Hi)) (exact ⟨Ac _ _ _,Ac _ _ _,Ac _ _ _⟩) (first
       |(go_at_call 31;with_reducible refine Calls.mono (b0.out _ _ (Ae D)) ?_;rintro e w5 ⟨rfl,q5⟩;haveI:=q5.i))
      all_goals
       go_wp2_with fail
       go_meet
       exact ⟨rfl,DC _ _ _ _ _⟩
     obtain ⟨rfl,q5⟩:=hcut
     clear q4 b0 this
     haveI:=q5.i
     cases am:(z !=Hi) with
     | true =>
       have ah:Aside (vl.all (Dj (Aw file) (D1 O T))=false):=G0 HP.out (by rw[a0.out,decide_eq_false (by simpa using am: ¬z=Hi)];rfl)
       go_wp2
       go_ret
       exact ⟨by rw[ah.out];rfl,Ax (C:=Sl.block m Je [.bool true,.int .i64 J,.slice Z ne j,.slice I np H]*D) (by ac_rfl)⟩
     | false =>
       have t:Aside (Dj (Aw file) (D1 O T) (r,Hi)=X.all fun x=>BP (D1 O T x.src) x):=by
        show _=_
        rw[a0.out,decide_eq_true (by simpa using am:z=Hi)]
        rfl
       clear a0 am
       go_wp2_with fail
       go_loopg [11] ne (fun g cb cd=> ∃(k:Nat),cb= .int .i64 k∧k≤ne∧Aside (g=ne-k∧ ∀x∈X.take k,BP (D1 O T x.src) x=true)∧Sat (Sl.block m Je [.bool true,.int .i64 J,.slice Z ne j,.slice I np H]*(D*(M*(B*(l*F))))) cd)
       case atStart=>exact ⟨0,rfl,by omega,⟨rfl,by simp⟩,q5⟩
       obtain ⟨k,rfl,hk,A2,q6⟩:=hrel
       clear q5
       haveI:=q6.i
       by_cases c5:k<ne
       · have bd : (k : Int) < ne := by omega
         obtain ⟨⟨x1,x2,x3,o⟩,hx⟩: ∃x,X[k]?=some x:=⟨_,List.getElem?_eq_getElem (by rw[HE.out.2.1];exact c5)⟩
         obtain ⟨bl,L,c3,y1,y2,y3,y4⟩:=BH HE.out.1 hx
         subst c3
         simp only at y1 y2 y3 y4
         have bf:=Cb.1 (HE.out.2.2.2 _ (List.mem_of_getElem? hx))
         simp only at bf
         obtain ⟨p,rfl⟩: ∃p:Nat,x2=p:=⟨x2.toNat,by omega⟩
         obtain ⟨q,rfl⟩: ∃q:Nat,x3=q:=⟨x3.toNat,by omega⟩
         have HX:=As hx
         have bh:x1=0∨x1=1:=by omega
         have d0:1≤q:=by omega
         have cn:p≤1099511627776∧q≤1048576:=by omega
         obtain ⟨K,ao⟩:=Aq wr.heap.size
         clear hx bf
         go_upto_region 11 with (fail)
         have q7:Sat (Sl.block K VC [.int .i64 x1,.int .i64 (p:Int),.int .i64 (q:Int)]*(Sl.block m Je [.bool true,.int .i64 J,.slice (some ⟨bl,L,none⟩) ne j,.slice I np H]*(D*(M*(B*(l*F)))))) (wr.alloc (.cells #[.int .i64 x1,.int .i64 (p:Int),.int .i64 (q:Int)] VC)):=by
          rw[←ao]
          exact Ap (by ac_rfl)
         try rw[ao]
         generalize wr.alloc (.cells #[.int .i64 x1,.int .i64 (p:Int),.int .i64 (q:Int)] VC)=w7 at q7⊢
         clear ao q6 this
         haveI:=q7.i
         rcases bh with rfl|rfl
         · have b : Aside (Reads l (.slice aO U cO) O ∧ O.length = U ∧ D1 O T 0 = O) := ⟨a6.out.1, a6.out.2.1, rfl⟩
           by_cases bt:U<p
           · have h1:(U:Int)<p:=by omega
             have f:Aside (vl.all (Dj (Aw file) (D1 O T))=false):=G0 HP.out (by
              rw[t.out]
              refine Hg HX.out ?_
              show BP (D1 O T 0) _=false
              rw[b.out.2.2]
              exact decide_eq_false fun h=>by have:=h.1;simp only at this;have:=b.out.2.1;omega)
             go_wp2
             go_ret
             exact ⟨by rw[f.out];rfl,Ax (C:=Sl.block K VC [.int .i64 0,.int .i64 (p:Int),.int .i64 (q:Int)]*(Sl.block m Je [.bool true,.int .i64 J,.slice (some ⟨bl,L,none⟩) ne j,.slice I np H]*D)) (by ac_rfl)⟩
           have h1: ¬(U:Int)<p:=by omega
           have hw1:=Bb ((U:Int)-p) (by omega)
           by_cases h2:(U:Int)-p<q
           · have f:Aside (vl.all (Dj (Aw file) (D1 O T))=false):=G0 HP.out (by
              rw[t.out]
              refine Hg HX.out ?_
              show BP (D1 O T 0) _=false
              rw[b.out.2.2]
              exact decide_eq_false fun h=>by have:=h.2.1;simp only at this;have:=b.out.2.1;omega)
             go_wp2
             go_ret
             exact ⟨by rw[f.out];rfl,Ax (C:=Sl.block K VC [.int .i64 0,.int .i64 (p:Int),.int .i64 (q:Int)]*(Sl.block m Je [.bool true,.int .i64 J,.slice (some ⟨bl,L,none⟩) ne j,.slice I np H]*D)) (by ac_rfl)⟩
           have ar:p+q≤U:=by omega
           by_cases h3:0≤o
           · obtain ⟨cut,G⟩:=Aq ((O.drop p).take q)
             have ap:cut.length=q:=by rw[←G,List.length_take,List.length_drop,b.out.2.1];omega
             have hw2:IntKind.i64.wrap ((p:Int)+(q:Int))=((p+q:Nat):Int):=by rw[IntWalk.i64_in _ (by omega)];omega
             have y1:0≤(p:Int)+(q:Int):=by omega
             have y2:(p:Int)+(q:Int)≤cO:=by omega
             have y3:p≤((p:Int)+(q:Int)).toNat:=by omega
             have y4:((p:Int)+(q:Int)).toNat-p=q:=by omega
             have y5: ¬cO=p:=by omega
             have P:Aside (∀F w,Sat (l*F) w→Calls Tryz.prog 25 #[.slice (aO.map fun x=>x.add p) q (cO-p)] w fun e d=> ∃(a:Option Addr)(c:Nat),e= .returned (.slice a (CL cut) c)∧Sat (l*F) d):=fun F w s=>by
              have a1:=Reads.cut b.out.1 p (p+q) (by omega) ar
              have e1:AH aO cO p 1=aO.map fun x=>x.add p:=by unfold AH;rw[if_neg (by omega),Nat.mul_one]
              rw[e1,show p+q-p=q by omega,G] at a1
              exact O5 _ cut l F w a1 s (by omega)
             have R:Aside (BP (D1 O T 0) ⟨0,p,q,o⟩=decide ((CL cut:Int)=o)):=by
              show _=_
              rw[b.out.2.2]
              unfold BP
              have e1:(⟨0,(p:Int),(q:Int),o⟩:Av).pos.toNat=p:=by simp
              have e2:(⟨0,(p:Int),(q:Int),o⟩:Av).len.toNat=q:=by simp
              rw[e1,e2,G,b.out.2.1]
              by_cases h9:(CL cut:Int)=o
              · rw[decide_eq_true h9]
                exact decide_eq_true ⟨by simp only;omega,by simp only;omega,fun _=>h9⟩
              rw[decide_eq_false h9]
              exact decide_eq_false fun h=>h9 (h.2.2 h3)
             obtain ⟨el,a2⟩:=Aq (CL cut)
             rw[a2] at P R
             clear G ap a2
             go_wp2_with fail
             go_cut [100] (fun a3 wx=>a3= .bool ((el:Int) !=o)∧Sat (Sl.block K VC [.int .i64 0,.int .i64 (p:Int),.int .i64 (q:Int)]*(Sl.block m Je [.bool true,.int .i64 J,.slice (some ⟨bl,L,none⟩) ne j,.slice I np H]*(D*(M*(B*(l*F)))))) wx)
             case first=>
              go_region_held3 (fun d=>d.cell? ⟨m,2,none⟩=some (.slice (some ⟨bl,L,none⟩) ne j)∧d.cell? ⟨K,1,none⟩=some (.int .i64 (p:Int))∧d.cell? ⟨K,2,none⟩=some (.int .i64 (q:Int))∧d.cell? ⟨bl,L+k*4+3,none⟩=some (.int .i64 o)) (exact ⟨Ac _ _ _,Ac _ _ _,Ac _ _ _,Ac _ _ _⟩) (first
               |(go_at_call 25;with_reducible refine Calls.mono (P.out _ _ (Ae l)) ?_;rintro e w9 ⟨a9,c9,rfl,q9⟩;haveI:=q9.i))
              all_goals
               go_wp2_with fail
               go_meet
               exact ⟨rfl,DZ _ _ _ _ _ _⟩
             obtain ⟨rfl,q9⟩:=hcut
             clear q7 P this
             haveI:=q9.i
             cases ee:((el:Int) !=o) with
             | true =>
               have f:Aside (vl.all (Dj (Aw file) (D1 O T))=false):=G0 HP.out (by
                rw[t.out]
                refine Hg HX.out ?_
                rw[R.out]
                exact decide_eq_false (by simpa using ee))
               go_wp2
               go_ret
               exact ⟨by rw[f.out];rfl,Ax (C:=Sl.block K VC [.int .i64 0,.int .i64 (p:Int),.int .i64 (q:Int)]*(Sl.block m Je [.bool true,.int .i64 J,.slice (some ⟨bl,L,none⟩) ne j,.slice I np H]*D)) (by ac_rfl)⟩
             | false =>
               have Q:Aside (∀x∈X.take (k+1),BP (D1 O T x.src) x=true):=Hh HX.out A2.out.2 (by
                rw[R.out]
                exact decide_eq_true (by simpa using ee))
               go_wp2_with fail
               go_roundg (ne-(k+1))
               case measure=>have:=A2.out.1;omega
               case rel=>exact ⟨k+1,by go_num,by omega,⟨rfl,Q.out⟩,Ax (C:=Sl.block K VC [.int .i64 0,.int .i64 (p:Int),.int .i64 (q:Int)]) (by ac_rfl)⟩
           have bu:o<0:=by omega
           have Q:Aside (∀x∈X.take (k+1),BP (D1 O T x.src) x=true):=Hh HX.out A2.out.2 (by
            show BP (D1 O T 0) _=true
            rw[b.out.2.2]
            exact decide_eq_true ⟨by simp only;have:=b.out.2.1;omega,by simp only;have:=b.out.2.1;omega,fun h=>absurd h h3⟩)
           go_wp2_with fail
           have bv: ¬0≤o:=by omega
           refine Dr.Ft (fun d=>d.cell? ⟨m,2,none⟩=some (.slice (some ⟨bl,L,none⟩) ne j)∧d.cell? ⟨bl,L+k*4+3,none⟩=some (.int .i64 o)) [] (by kernel_rfl) ⟨Ac _ _ _,Ac _ _ _⟩ (fun y=>?_)
           refine Dr.k2 0 ?_
           refine Dr.k3 1 y ?_
           refine Dr.k2 2 ?_
           refine Dr.k2 3 ?_
           refine Dr.k2 4 ?_
           refine Dr.k3 5 y ?_
           refine Dr.k2 6 ?_
           refine Dr.k2 7 ?_
           refine Dr.k1 8 ?_
           refine Dr.k1 9 ?_
           refine Dr.k1 10 ?_
           refine Dr.k1 11 ?_
           refine Dr.k1 12 ?_
           refine Dr.k1 13 ?_
           refine Dr.k1 14 ?_
           refine Dr.k1 15 ?_
           refine Dr.k1 16 ?_
           refine Dr.k1 17 ?_
           refine Dr.k1 18 ?_
           refine Dr.k1 19 ?_
           refine Dr.k1 20 ?_
           refine Dr.k1 21 ?_
           refine Dr.k1 22 ?_
           refine Dr.k1 23 ?_
           refine Dr.k1 24 ?_
           refine Dr.k1 25 ?_
           refine Dr.k2 26 ?_
           refine Dr.Gu [] (os:= []) (by decide) rfl (by kernel_rfl) ?_
           go_wp2_with fail
           go_roundg (ne-(k+1))
           case measure=>have:=A2.out.1;omega
           case rel=>exact ⟨k+1,by go_num,by omega,⟨rfl,Q.out⟩,Ax (C:=Sl.block K VC [.int .i64 0,.int .i64 (p:Int),.int .i64 (q:Int)]) (by ac_rfl)⟩
         have b:Aside (Reads l (.slice aT W cT) T∧T.length=W∧D1 O T 1=T):=⟨a6.out.2.2.1,a6.out.2.2.2,rfl⟩
         by_cases bt:W<p
         · have h1:(W:Int)<p:=by omega
           have f:Aside (vl.all (Dj (Aw file) (D1 O T))=false):=G0 HP.out (by
            rw[t.out]
            refine Hg HX.out ?_
            show BP (D1 O T 1) _=false
            rw[b.out.2.2]
            exact decide_eq_false fun h=>by have:=h.1;simp only at this;have:=b.out.2.1;omega)
           go_wp2
           go_ret
           exact ⟨by rw[f.out];rfl,Ax (C:=Sl.block K VC [.int .i64 1,.int .i64 (p:Int),.int .i64 (q:Int)]*(Sl.block m Je [.bool true,.int .i64 J,.slice (some ⟨bl,L,none⟩) ne j,.slice I np H]*D)) (by ac_rfl)⟩
         have h1: ¬(W:Int)<p:=by omega
         have hw1:=Bb ((W:Int)-p) (by omega)
         by_cases h2:(W:Int)-p<q
         · have f:Aside (vl.all (Dj (Aw file) (D1 O T))=false):=G0 HP.out (by
            rw[t.out]
            refine Hg HX.out ?_
            show BP (D1 O T 1) _=false
            rw[b.out.2.2]
            exact decide_eq_false fun h=>by have:=h.2.1;simp only at this;have:=b.out.2.1;omega)
           go_wp2
           go_ret
           exact ⟨by rw[f.out];rfl,Ax (C:=Sl.block K VC [.int .i64 1,.int .i64 (p:Int),.int .i64 (q:Int)]*(Sl.block m Je [.bool true,.int .i64 J,.slice (some ⟨bl,L,none⟩) ne j,.slice I np H]*D)) (by ac_rfl)⟩
         have ar:p+q≤W:=by omega
         by_cases h3:0≤o
         · obtain ⟨cut,G⟩:=Aq ((T.drop p).take q)
           have ap:cut.length=q:=by rw[←G,List.length_take,List.length_drop,b.out.2.1];omega
           have hw2:IntKind.i64.wrap ((p:Int)+(q:Int))=((p+q:Nat):Int):=by rw[IntWalk.i64_in _ (by omega)];omega
           have y1:0≤(p:Int)+(q:Int):=by omega
           have y2:(p:Int)+(q:Int)≤cT:=by omega
           have y3:p≤((p:Int)+(q:Int)).toNat:=by omega
           have y4:((p:Int)+(q:Int)).toNat-p=q:=by omega
           have y5: ¬cT=p:=by omega
           have P:Aside (∀F w,Sat (l*F) w→Calls Tryz.prog 25 #[.slice (aT.map fun x=>x.add p) q (cT-p)] w fun e d=> ∃(a:Option Addr)(c:Nat),e= .returned (.slice a (CL cut) c)∧Sat (l*F) d):=fun F w s=>by
            have a1:=Reads.cut b.out.1 p (p+q) (by omega) ar
            have e1:AH aT cT p 1=aT.map fun x=>x.add p:=by unfold AH;rw[if_neg (by omega),Nat.mul_one]
            rw[e1,show p+q-p=q by omega,G] at a1
            exact O5 _ cut l F w a1 s (by omega)
           have R:Aside (BP (D1 O T 1) ⟨1,p,q,o⟩=decide ((CL cut:Int)=o)):=by
            show _=_
            rw[b.out.2.2]
            unfold BP
            have e1:(⟨1,(p:Int),(q:Int),o⟩:Av).pos.toNat=p:=by simp
            have e2:(⟨1,(p:Int),(q:Int),o⟩:Av).len.toNat=q:=by simp
            rw[e1,e2,G,b.out.2.1]
            by_cases h9:(CL cut:Int)=o
            · rw[decide_eq_true h9]
              exact decide_eq_true ⟨by simp only;omega,by simp only;omega,fun _=>h9⟩
            rw[decide_eq_false h9]
            exact decide_eq_false fun h=>h9 (h.2.2 h3)
           obtain ⟨el,a2⟩:=Aq (CL cut)
           rw[a2] at P R
           clear G ap a2
           go_wp2_with fail
           go_cut [100] (fun a3 wx=>a3= .bool ((el:Int) !=o)∧Sat (Sl.block K VC [.int .i64 1,.int .i64 (p:Int),.int .i64 (q:Int)]*(Sl.block m Je [.bool true,.int .i64 J,.slice (some ⟨bl,L,none⟩) ne j,.slice I np H]*(D*(M*(B*(l*F)))))) wx)
           case first=>
            go_region_held3 (fun d=>d.cell? ⟨m,2,none⟩=some (.slice (some ⟨bl,L,none⟩) ne j)∧d.cell? ⟨K,1,none⟩=some (.int .i64 (p:Int))∧d.cell? ⟨K,2,none⟩=some (.int .i64 (q:Int))∧d.cell? ⟨bl,L+k*4+3,none⟩=some (.int .i64 o)) (exact ⟨Ac _ _ _,Ac _ _ _,Ac _ _ _,Ac _ _ _⟩) (first
             |(go_at_call 25;with_reducible refine Calls.mono (P.out _ _ (Ae l)) ?_;rintro e w9 ⟨a9,c9,rfl,q9⟩;haveI:=q9.i))
            all_goals
             go_wp2_with fail
             go_meet
             exact ⟨rfl,DZ _ _ _ _ _ _⟩
           obtain ⟨rfl,q9⟩:=hcut
           clear q7 P this
           haveI:=q9.i
           cases ee:((el:Int) !=o) with
           | true =>
             have f:Aside (vl.all (Dj (Aw file) (D1 O T))=false):=G0 HP.out (by
              rw[t.out]
              refine Hg HX.out ?_
              rw[R.out]
              exact decide_eq_false (by simpa using ee))
             go_wp2
             go_ret
             exact ⟨by rw[f.out];rfl,Ax (C:=Sl.block K VC [.int .i64 1,.int .i64 (p:Int),.int .i64 (q:Int)]*(Sl.block m Je [.bool true,.int .i64 J,.slice (some ⟨bl,L,none⟩) ne j,.slice I np H]*D)) (by ac_rfl)⟩
           | false =>
             have Q:Aside (∀x∈X.take (k+1),BP (D1 O T x.src) x=true):=Hh HX.out A2.out.2 (by
              rw[R.out]
              exact decide_eq_true (by simpa using ee))
             go_wp2_with fail
             go_roundg (ne-(k+1))
             case measure=>have:=A2.out.1;omega
             case rel=>exact ⟨k+1,by go_num,by omega,⟨rfl,Q.out⟩,Ax (C:=Sl.block K VC [.int .i64 1,.int .i64 (p:Int),.int .i64 (q:Int)]) (by ac_rfl)⟩
         have bu:o<0:=by omega
         have Q:Aside (∀x∈X.take (k+1),BP (D1 O T x.src) x=true):=Hh HX.out A2.out.2 (by
          show BP (D1 O T 1) _=true
          rw[b.out.2.2]
          exact decide_eq_true ⟨by simp only;have:=b.out.2.1;omega,by simp only;have:=b.out.2.1;omega,fun h=>absurd h h3⟩)
         go_wp2_with fail
         have bv: ¬0≤o:=by omega
         refine Dr.Ft (fun d=>d.cell? ⟨m,2,none⟩=some (.slice (some ⟨bl,L,none⟩) ne j)∧d.cell? ⟨bl,L+k*4+3,none⟩=some (.int .i64 o)) [] (by kernel_rfl) ⟨Ac _ _ _,Ac _ _ _⟩ (fun y=>?_)
         refine Dr.k2 0 ?_
         refine Dr.k3 1 y ?_
         refine Dr.k2 2 ?_
         refine Dr.k2 3 ?_
         refine Dr.k2 4 ?_
         refine Dr.k3 5 y ?_
         refine Dr.k2 6 ?_
         refine Dr.k2 7 ?_
         refine Dr.k1 8 ?_
         refine Dr.k1 9 ?_
         refine Dr.k1 10 ?_
         refine Dr.k1 11 ?_
         refine Dr.k1 12 ?_
         refine Dr.k1 13 ?_
         refine Dr.k1 14 ?_
         refine Dr.k1 15 ?_
         refine Dr.k1 16 ?_
         refine Dr.k1 17 ?_
         refine Dr.k1 18 ?_
         refine Dr.k1 19 ?_
         refine Dr.k1 20 ?_
         refine Dr.k1 21 ?_
         refine Dr.k1 22 ?_
         refine Dr.k1 23 ?_
         refine Dr.k1 24 ?_
         refine Dr.k1 25 ?_
         refine Dr.k2 26 ?_
         refine Dr.Gu [] (os:= []) (by decide) rfl (by kernel_rfl) ?_
         go_wp2_with fail
         go_roundg (ne-(k+1))
         case measure=>have:=A2.out.1;omega
         case rel=>exact ⟨k+1,by go_num,by omega,⟨rfl,Q.out⟩,Ax (C:=Sl.block K VC [.int .i64 1,.int .i64 (p:Int),.int .i64 (q:Int)]) (by ac_rfl)⟩
       have bd: ¬(k:Int)<ne:=by omega
       have ag:Aside (∀u∈vl.take (i+1),Dj (Aw file) (D1 O T) u=true):=Qv HP.out A.out.2 (by
        rw[t.out,List.all_eq_true]
        have:=A2.out.2
        rwa [List.take_of_length_le (by rw[HE.out.2.1];omega)] at this)
       clear A2
       go_wp2_with fail
       go_roundg (n-(i+1))
       case measure=>have:=A.out.1;omega
       case rel=>exact ⟨i+1,by go_num,by omega,⟨rfl,ag.out⟩,Ax (C:=Sl.block m Je [.bool true,.int .i64 J,.slice Z ne j,.slice I np H]*D) (by ac_rfl)⟩
 have be: ¬(i:Int)<n:=by omega
 have ag:Aside (vl.all (Dj (Aw file) (D1 O T))=true):=by
  show _=_
  rw[List.all_eq_true]
  have:=A.out.2
  rwa [List.take_of_length_le (by rw[HB.out.2];omega)] at this
 go_wp2_with fail
 go_ret
 exact ⟨by rw[ag.out];rfl,Cz _ _ _ _⟩
