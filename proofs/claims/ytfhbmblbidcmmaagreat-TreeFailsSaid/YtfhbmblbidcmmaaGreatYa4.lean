/- treeFails holds for every input. No condition. (part 4) -/
import Derived.Test.YtfhbmblbidcmmaaGreatYa2
import Derived.Test.YtfhbmblbidcmmaaGreatYa3
set_option linter.all false
set_option maxHeartbeats 400000
namespace Go.Proofs.YtfhbmblbidcmmaaGreat
open Go.RowKit Go.Sl Go.UB
def Gl(ns:List Nd):List Int:=(ns.filter (·.Hr)).map (·.key)
theorem Tz{l d:List Int}(h:l.Perm d):E8 l=E8 d:=by
 have i: ∀a b c:Int,decide (a≤b)=true→decide (b≤c)=true→decide (a≤c)=true:=by intro a b c;simp;omega
 have e: ∀a b:Int,(decide (a≤b)||decide (b≤a))=true:=by intro a b;simp;omega
 have j:=List.pairwise_mergeSort i e l
 have k:=List.pairwise_mergeSort i e d
 have hp:(E8 l).Perm (E8 d):=(List.mergeSort_perm l _).trans (h.trans (List.mergeSort_perm d _).symm)
 exact hp.eq_of_pairwise (fun a b _ _ f g=>by simp at f g;omega) j k
theorem V1{a:List (Int×Value)}{b:List Nd}(h:a.Perm (b.map kv)){i:Nat}{p:Int×Value}(hi:a[i]?=some p):
 ∃l1 n l2,b=l1++n::l2∧kv n=p∧(a.eraseIdx i).Perm ((l1++l2).map kv):=by
 have hm:p∈b.map kv:=h.mem_iff.1 (List.mem_of_getElem? hi)
 obtain ⟨n,e,rfl⟩:=List.mem_map.1 hm
 obtain ⟨l1,l2,rfl⟩:=List.append_of_mem e
 refine ⟨l1,n,l2,rfl,rfl,?_⟩
 have c:a.Perm (kv n::a.eraseIdx i):=DY a i _ hi
 have d:((l1++n::l2).map kv).Perm (kv n::(l1++l2).map kv):=by
  simp only[List.map_append,List.map_cons]
  exact List.perm_middle
 exact (List.perm_cons _).1 (c.symm.trans (h.trans d))
def Ga(ns:List Nd)(b:List (Int×Value))(ks:List Int):Prop:= ∃a:List Nd,b.Perm (a.map kv)∧(∀n∈a,n∈ns)∧(ks++Gl a).Perm (Gl ns)∧ks.length+a.length≤ns.length
theorem Ga.step{ns:List Nd}{c:List (Int×Value)}{ks:List Int}(h:Ga ns c ks){i:Nat}{k:Int}{v:Value}(hi:c[i]?=some (k,v)):
 ∃n∈ns,k=n.key∧v= .pointer (some ⟨n.b,0,none⟩)∧ks.length<ns.length∧Ga ns (c.eraseIdx i) (if n.Hr then ks++ [n.key] else ks):=by
 obtain ⟨j,e,d,f,g⟩:=h
 obtain ⟨l1,n,l2,rfl,a,hp⟩:=V1 e hi
 simp only[kv,Prod.mk.injEq] at a
 simp only[List.length_append,List.length_cons] at g
 refine ⟨n,d n (by simp),a.1.symm,a.2.symm,by omega,l1++l2,hp,fun m hm=>d m (by simp only[List.mem_append,List.mem_cons] at hm⊢;rcases hm with h|h<;>simp[h]),?_,?_⟩
 ·refine List.Perm.trans ?_ f
  unfold Gl
  simp only[List.filter_append,List.filter_cons,List.map_append]
  cases hm:n.Hr with
  |false=>simp
  | true =>
   simp only[if_true,List.map_cons,List.append_assoc]
   refine List.Perm.append_left ks ?_
   simp only[List.singleton_append]
   exact List.perm_middle.symm
 split
 ·simp;omega
 simp;omega
theorem WW{L M:Nat}{cap:Int}{ns:List Nd}{n:Nd}(a:n∈ns){o e:Obj}{d:Nat}{F:Ac}{w:World}(hs:Sat (raw M o*(raw d e*(core TL L M cap*(chain (ring L ns)*items TI ns)*F))) w):
 w.cell? ⟨n.b,2,none⟩=some (.bool n.Hr):=by
 obtain ⟨l1,l2,rfl⟩:=List.append_of_mem a
 rw[Dm,items] at hs
 unfold item at hs
 exact hs.c n.b 2
theorem SU(L M:Nat)(cap:Int)(ns:List Nd)(F:Ac)(w:World)(hs:Sat (CC TL TI L M cap ns*F) w)(hn:ns.length≤4096):
 Calls Tryz.prog 100 #[.pointer (some ⟨L,0,none⟩)] w fun e w'=> ∃a n c,e= .returned (.slice a n c)∧Sat (rw 3 1 (.slice a n c) ((E8 (Gl ns)).map (Value.int .i64))*(CC TL TI L M cap ns*F)) w':=by
 obtain ⟨i0,E⟩:=Ys
 have u:Sat (core TL L M cap*(IG M ns*(chain (ring L ns)*items TI ns))*F) w:=hs
 have h6:=u.c L 6
 obtain ⟨ms,o,hp,ho,x⟩:=Sat.FV (u.take (IG M ns))
 obtain ⟨Z,hI,p⟩:=E6 (P:=Tryz.prog) Tryz.underlying267 x.obj ho
 have V:=x.CH Z
 have q:Sat (raw M o*(raw w.heap.size Z*(core TL L M cap*(chain (ring L ns)*items TI ns)*F))) (w.alloc Z):=V.eq (by ac_rfl)
 clear V x u hs
 go_enter Tryz.func100,Tryz.ntmps100
 go_wp2
 go_loopg [3] ns.length (fun k out wr=> ∃(a:Option Addr)(ks:List Int)(c:Nat)(f:Obj)(b:List (Int×Value)),out= .slice a ks.length c∧Aside (k=b.length∧Iter AZ M o f ms b∧Ga ns b ks)∧
  Sat (rw 3 1 (.slice a ks.length c) (ks.map (Value.int .i64))*(raw M o*(raw w.heap.size f*(core TL L M cap*(chain (ring L ns)*items TI ns)*F)))) wr)
 case atStart=>exact ⟨none,[],0,Z,ms,rfl,⟨by simpa using hp.length_eq.symm,hI,ns,hp,fun _ h=>h,by simp,by simp⟩,q.Bj⟩
 obtain ⟨a,ks,c,f,b,rfl,A,r⟩:=hrel
 obtain ⟨H,m,hR⟩:=A.out
 have z:=r.eq (B:=raw M o*(raw w.heap.size f*(rw 3 1 (.slice a ks.length c) (ks.map (Value.int .i64))*(core TL L M cap*(chain (ring L ns)*items TI ns)*F)))) (by ac_rfl)
 clear hI q p h6
 rcases Ft (P:=Tryz.prog) z m with ⟨U,t⟩|⟨i,k,v,D,w2,hi,t,G,y,Y⟩
 · subst U
   obtain ⟨a4,R,_,T,J⟩:=hR
   have Q:a4= []:=by have:=R.length_eq;simpa using this.symm
   subst Q
   have I:ks.Perm (Gl ns):=by simpa[Gl] using T
   have s:ks.length<4611686018427387904:=by simp at J;omega
   have l:=Md a ks.length c ks _ wr r s
   rw[Tz I] at l
   have X:Aside (Iter AZ M o f ms []):=m
   clear z m A R T J I s r
   go_wp2_with (go_at_call 122;refine l.mono ?_;rintro e w3 ⟨rfl,q⟩)
   go_ret
   refine ⟨a,ks.length,c,rfl,?_⟩
   have j:=Sat.II hp X.out.Un (q.take (raw M o))
   refine Sat.CR (B:=raw w.heap.size f) (j.eq ?_)
   unfold CC
   ac_rfl
 obtain ⟨n,a2,rfl,rfl,s,d⟩:=hR.step hi
 have c2:=WW (F:=rw 3 1 (.slice a ks.length c) (ks.map (Value.int .i64))*F) a2 (y.eq (by ac_rfl))
 have K:(b.eraseIdx i).length<b.length:=by
  have:=(List.getElem?_eq_some_iff.1 hi).1
  rw[List.length_eraseIdx];split<;>omega
 have HL:Aside ((b.eraseIdx i).length<b.length∧gk=b.length):=⟨K,H⟩
 have X:Aside (Iter AZ M o D ms (b.eraseIdx i)):=G
 clear z m A r K H G hi hR
 cases hm:n.Hr with
 | false =>
   rw[hm] at c2 d
   have g:Ga ns (b.eraseIdx i) ks:=by simpa using d
   have HR:Aside (Ga ns (b.eraseIdx i) ks):=g
   clear g
   clear hm d
   go_wp2
   go_roundg (b.eraseIdx i).length
   case measure=>have:=HL.out;omega
   case rel=>exact ⟨a,ks,c,D,_,rfl,⟨rfl,X.out,HR.out⟩,y.eq (by ac_rfl)⟩
 | true =>
   rw[hm] at c2 d
   have g:Ga ns (b.eraseIdx i) (ks++ [n.key]):=by simpa using d
   have HR:Aside (Ga ns (b.eraseIdx i) (ks++ [n.key])):=g
   clear g
   clear hm d
   have j:=y.alloc #[.int .i64 n.key] 3
   have W:=j.take (rw 3 1 (.slice a ks.length c) (ks.map (Value.int .i64)))
   have hx:=Src.Ut (P:=Tryz.prog) j rfl
   clear j
   go_wp2_with (at_builtin;refine Aj E rfl (.tmp 22) (.tmp 24) rfl rfl rfl W hx (by unfold maxLen;omega) (by omega) ?_;intro a' c' w' a3 O;clear O W hx)
   go_roundg (b.eraseIdx i).length
   case measure=>have:=HL.out;omega
   refine ⟨a',ks++ [n.key],c',D,_,by simp,⟨rfl,X.out,HR.out⟩,?_⟩
   simp only[List.length_append,List.length_cons,List.length_nil,List.map_append,List.map_cons,List.map_nil,Nat.zero_add]
   refine Sat.CR (B:=block w2.heap.size 3 [.int .i64 n.key]) (a3.eq ?_)
   ac_rfl
structure It where
 key:Int
 pins:Int
 Hr:Bool
def EG(n:Nd):It:=⟨n.key,n.pins,n.Hr⟩
def Bf(its:List It)(k:Int):Bool:=its.any fun n=>n.key==k
def E5(its:List It)(k:Int):List It:=its.filter fun n=>n.key !=k
def EC(its:List It)(k:Int):List It:=E5 its k++its.filter fun n=>n.key==k
def PH(f:It→It)(its:List It)(k:Int):List It:=its.map fun n=>if n.key=k then f n else n
def L8(its:List It):Option It:=its.find? fun n=>n.pins==0
def Df(its:List It)(k:Int):Bool:=its.any fun n=>n.key==k&&n.pins==0
def BC(its:List It):List Int:=E8 ((its.filter (·.Hr)).map (·.key))
def Da(its:List It):List Int:=its.map (·.key)
def AU(its:List It)(k:Int)(a:Bool):List It:=PH (fun n=> { n with Hr:=a }) its k
def Cf(L:Nat)(cap:Int)(its:List It):Ac:=ex fun x:Nat×List Nd=>Yb (x.2.map EG=its)*CC TL TI L x.1 cap x.2
theorem Sat.GH{L:Nat}{cap:Int}{its:List It}{F:Ac}{w:World}(hs:Sat (Cf L cap its*F) w): ∃M ns,ns.map EG=its∧Sat (CC TL TI L M cap ns*F) w:=by
 obtain ⟨⟨M,ns⟩,h⟩:=hs.Mu
 rw[Ar] at h
 obtain ⟨a,b⟩:=h.Fp
 exact ⟨M,ns,a,b⟩
theorem Sat.GI{L M:Nat}{cap:Int}{ns:List Nd}{its:List It}{F:Ac}{w:World}(a:ns.map EG=its)(hs:Sat (CC TL TI L M cap ns*F) w):Sat (Cf L cap its*F) w:=by
 refine Sat.Mv (M,ns) ?_
 rw[Ar]
 exact Sat.KU a hs
theorem Y4(ns:List Nd):(ns.map EG).map (·.key)=ns.map (·.key):=by simp[EG,Function.comp_def]
theorem SH(ns:List Nd)(k:Int):Bf (ns.map EG) k=hasB ns k:=by simp[Bf,hasB,EG,List.any_map,Function.comp_def]
theorem Xn(ns:List Nd)(k:Int):(Ol ns k).map EG=E5 (ns.map EG) k:=by simp[E5,Ol,EG,List.filter_map,Function.comp_def]
theorem ZT(ns:List Nd)(k:Int):(TG ns k).map EG=EC (ns.map EG) k:=by
 unfold TG EC
 rw[List.map_append,Xn]
 congr 1
 simp[EG,List.filter_map,Function.comp_def]
theorem Y9(ns:List Nd)(k:Int)(a:Bool):(ZZ (fun n=> { n with Hr:=a }) ns k).map EG=AU (ns.map EG) k a:=by
 unfold ZZ AU PH
 rw[List.map_map,List.map_map]
 apply List.map_congr_left
 intro n _
 by_cases h:n.key=k<;>simp[Function.comp,EG,h]
theorem ZB(ns:List Nd):L8 (ns.map EG)=(L9 ns).map EG:=by
 unfold L8 L9
 rw[List.find?_map];rfl
theorem Yq(ns:List Nd)(k:Int):Df (ns.map EG) k=ns.any fun n=>n.key==k&&n.pins==0:=by simp[Df,EG,List.any_map,Function.comp_def]
theorem Vo(ns:List Nd):BC (ns.map EG)=E8 (Gl ns):=by
 unfold BC Gl
 congr 1
 simp[EG,List.filter_map,Function.comp_def]
structure DP (its:List It):Prop where
 nd:(Da its).Nodup
 pins: ∀n∈its,0≤n.pins
 len:its.length≤4096
theorem DP.Y3{ns:List Nd}(h:DP (ns.map EG)):Ik ns:=by
 have:=h.nd
 unfold Da at this
 rw[Y4] at this
 exact this
theorem DP.X'{ns:List Nd}(h:DP (ns.map EG)): ∀n∈ns,0≤n.pins:=fun n a=>h.pins (EG n) (List.mem_map.2 ⟨n,a,rfl⟩)
theorem ZS(L:Nat)(cap:Int)(its:List It)(k:Int)(F:Ac)(w:World)(hs:Sat (Cf L cap its*F) w)(ok:DP its):
 Calls Tryz.prog 180 #[.pointer (some ⟨L,0,none⟩),.int .i64 k] w fun e a=>e= .returned (.bool (Bf its k))∧Sat (Cf L cap (EC its k)*F) a:=by
 obtain ⟨M,ns,rfl,h⟩:=Sat.GH hs
 rw[SH]
 exact (Zf L M cap ns k F w h ok.Y3).mono fun e a ⟨b,c⟩=>⟨b,Sat.GI (ZT ns k) c⟩
theorem WY(L:Nat)(cap:Int)(its:List It)(k:Int)(a:Bool)(F:Ac)(w:World)(hs:Sat (Cf L cap its*F) w)(ok:DP its):
 Calls Tryz.prog 148 #[.pointer (some ⟨L,0,none⟩),.int .i64 k,.bool a] w fun e b=>e= .returned (.bool (Bf its k))∧Sat (Cf L cap (AU its k a)*F) b:=by
 obtain ⟨M,ns,rfl,h⟩:=Sat.GH hs
 rw[SH]
 exact (WZ L M cap ns k a F w h ok.Y3).mono fun e b ⟨c,d⟩=>⟨c,Sat.GI (Y9 ns k a) d⟩
theorem Zi(L:Nat)(cap:Int)(its:List It)(k:Int)(F:Ac)(w:World)(hs:Sat (Cf L cap its*F) w)(ok:DP its):
 Calls Tryz.prog 164 #[.pointer (some ⟨L,0,none⟩),.int .i64 k] w fun e a=>e= .returned (.bool (Df its k))∧Sat (Cf L cap (if Df its k then E5 its k else its)*F) a:=by
 obtain ⟨M,ns,rfl,h⟩:=Sat.GH hs
 rw[Yq]
 refine (Wy L M cap ns k F w h ok.Y3 ok.X').mono fun e a ⟨b,c⟩=>⟨b,Sat.GI ?_ c⟩
 split
 ·exact Xn ns k
 rfl
theorem Us(L:Nat)(cap:Int)(its:List It)(F:Ac)(w:World)(hs:Sat (Cf L cap its*F) w):
 Calls Tryz.prog 252 #[.pointer (some ⟨L,0,none⟩)] w fun e a=>e= .returned (.tuple #[.int .i64 (((L8 its).map (·.key)).getD 0),.bool (L8 its).isSome])∧w=a:=by
 obtain ⟨M,ns,rfl,h⟩:=Sat.GH hs
 have:=JU L M cap ns F w h
 unfold Vx PZ at this
 rw[ZB]
 simpa[EG,Function.comp_def] using this
theorem Uo(L:Nat)(cap:Int)(its:List It)(F:Ac)(w:World)(hs:Sat (Cf L cap its*F) w)(ok:DP its):
 Calls Tryz.prog 100 #[.pointer (some ⟨L,0,none⟩)] w fun e b=> ∃a n c,e= .returned (.slice a n c)∧Sat (rw 3 1 (.slice a n c) ((BC its).map (Value.int .i64))*(Cf L cap its*F)) b:=by
 obtain ⟨M,ns,rfl,h⟩:=Sat.GH hs
 rw[Vo]
 refine (SU L M cap ns F w h (by have:=ok.len;simpa using this)).mono ?_
 rintro e b ⟨a,n,c,rfl,d⟩
 refine ⟨a,n,c,rfl,?_⟩
 have f:=Sat.GI (its:=ns.map EG) rfl (d.eq (B7 _ _ _))
 exact f.eq (B7 _ _ _)
theorem l8(L:Nat)(cap:Int)(its:List It)(k:Int)(F:Ac)(w:World)(hs:Sat (Cf L cap its*F) w)(ok:DP its)(i:Bf its k=false)(d:(its.length:Int)≠cap):
 Calls Tryz.prog 230 #[.pointer (some ⟨L,0,none⟩),.int .i64 k] w fun e j=>e= .returned (.tuple #[.int .i64 0,.bool false,.int .i64 0])∧Sat (Cf L cap (its++ [⟨k,0,false⟩])*F) j:=by
 obtain ⟨M,ns,rfl,h⟩:=Sat.GH hs
 rw[SH] at i
 rw[List.length_map] at d
 refine (Yk L M cap ns k F w h ok.Y3).mono ?_
 rintro e j ⟨g,o,c,n,rfl,l,m⟩
 rcases l with ⟨f,_⟩|⟨_,_,rfl,rfl,rfl,b,rfl⟩|⟨_,a,_⟩|⟨_,a,_⟩
 ·rw[i] at f;cases f
 ·exact ⟨rfl,Sat.GI (by simp[EG]) m⟩
 ·exact absurd a d
 exact absurd a d
