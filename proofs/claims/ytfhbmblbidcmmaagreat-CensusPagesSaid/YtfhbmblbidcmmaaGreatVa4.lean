/- censusPages holds for every input. No condition. (part 4) -/
import Derived.Test.YtfhbmblbidcmmaaGreatVa2
import Derived.Test.YtfhbmblbidcmmaaGreatVa3
set_option linter.all false
set_option maxHeartbeats 400000
namespace Go.Proofs.YtfhbmblbidcmmaaGreat
open Go.RowKit Go.Sl Go.PW
def GH(ns:List Nd):List Int:=(ns.filter (·.Jw)).map (·.key)
theorem Xj{l l':List Int}(h:l.Perm l'):Di l=Di l':=by
 have g: ∀a b c:Int,decide (a≤b)=true→decide (b≤c)=true→decide (a≤c)=true:=by intro a b c;simp;omega
 have d: ∀a b:Int,(decide (a≤b)||decide (b≤a))=true:=by intro a b;simp;omega
 have h1:=List.pairwise_mergeSort g d l
 have i:=List.pairwise_mergeSort g d l'
 have hp:(Di l).Perm (Di l'):=(List.mergeSort_perm l _).trans (h.trans (List.mergeSort_perm l' _).symm)
 exact hp.eq_of_pairwise (fun a b _ _ e f=>by simp at e f;omega) h1 i
theorem Z7{a:List (Int×Value)}{b:List Nd}(h:a.Perm (b.map kv)){i:Nat}{p:Int×Value}(hi:a[i]?=some p):
 ∃l1 n l2,b=l1++n::l2∧kv n=p∧(a.eraseIdx i).Perm ((l1++l2).map kv):=by
 have hm:=h.mem_iff.1 (List.mem_of_getElem? hi)
 obtain ⟨n,d,rfl⟩:=List.mem_map.1 hm
 obtain ⟨l1,l2,rfl⟩:=List.append_of_mem d
 refine ⟨l1,n,l2,rfl,rfl,?_⟩
 have h1:=F5 a i _ hi
 have c:((l1++n::l2).map kv).Perm (kv n::(l1++l2).map kv):=by simp
 exact (List.perm_cons _).1 (h1.symm.trans (h.trans c))
def JQ(ns:List Nd)(b:List (Int×Value))(ks:List Int):Prop:= ∃a:List Nd,b.Perm (a.map kv)∧(∀n∈a,n∈ns)∧(ks++GH a).Perm (GH ns)∧ks.length+a.length≤ns.length
theorem JQ.step{ns:List Nd}{c:List (Int×Value)}{ks:List Int}(h:JQ ns c ks){i:Nat}{k:Int}{v:Value}(hi:c[i]?=some (k,v)):
 ∃n∈ns,k=n.key∧v= .pointer (some ⟨n.b,0,none⟩)∧ks.length<ns.length∧JQ ns (c.eraseIdx i) (if n.Jw then ks++ [n.key] else ks):=by
 obtain ⟨g,h1,d,e,f⟩:=h
 obtain ⟨l1,n,l2,rfl,a,hp⟩:=Z7 h1 hi
 simp only[kv,Prod.mk.injEq] at a
 simp only[List.length_append,List.length_cons] at f
 refine ⟨n,d n (by simp),a.1.symm,a.2.symm,by omega,l1++l2,hp,fun m hm=>d m (by simp only[List.mem_append,List.mem_cons] at hm⊢;rcases hm with h|h<;>simp[h]),?_,?_⟩
 ·refine List.Perm.trans ?_ e
  unfold GH
  grind
 grind
theorem aN{L M:Nat}{cap:Int}{ns:List Nd}{n:Nd}(a:n∈ns){o e:Obj}{d:Nat}{F:Ab}{w:World}(hs:Sat (raw M o*(raw d e*(core TL L M cap*(chain (ring L ns)*items TI ns)*F))) w):
 w.cell? ⟨n.b,2,none⟩=some (.bool n.Jw):=by
 obtain ⟨l1,l2,rfl⟩:=List.append_of_mem a
 rw[DA,items] at hs
 unfold item at hs
 exact hs.c n.b 2
theorem Wy(L M:Nat)(cap:Int)(ns:List Nd)(F:Ab)(w:World)(hs:Sat (CT TL TI L M cap ns*F) w)(hn:ns.length≤4096):
 Calls Tryz.prog 100 #[.pointer (some ⟨L,0,none⟩)] w fun e w'=> ∃a n c,e= .returned (.slice a n c)∧Sat (rw 3 1 (.slice a n c) ((Di (GH ns)).map (Value.int .i64))*(CT TL TI L M cap ns*F)) w':=by
 obtain ⟨i0,E⟩:=XL
 have u:Sat (core TL L M cap*(J3 M ns*(chain (ring L ns)*items TI ns))*F) w:=hs
 have h6:=u.c L 6
 obtain ⟨ms,o,hp,ho,x⟩:=Sat.Gs (u.take (J3 M ns))
 obtain ⟨Z,hI,p⟩:=IK (P:=Tryz.prog) Tryz.underlying267 x.obj ho
 have U:=x.CX Z
 have q:Sat (raw M o*(raw w.heap.size Z*(core TL L M cap*(chain (ring L ns)*items TI ns)*F))) (w.alloc Z):=U.eq (by ac_rfl)
 clear U x u hs
 go_enter Tryz.func100,Tryz.ntmps100
 go_wp2
 go_loopg [3] ns.length (fun k out wr=> ∃(a:Option Addr)(ks:List Int)(c:Nat)(l:Obj)(b:List (Int×Value)),out= .slice a ks.length c∧Aside (k=b.length∧Iter A8 M o l ms b∧JQ ns b ks)∧
  Sat (rw 3 1 (.slice a ks.length c) (ks.map (Value.int .i64))*(raw M o*(raw w.heap.size l*(core TL L M cap*(chain (ring L ns)*items TI ns)*F)))) wr)
 case atStart=>exact ⟨none,[],0,Z,ms,rfl,⟨by simpa using hp.length_eq.symm,hI,ns,hp,fun _ h=>h,by simp,by simp⟩,q.AE⟩
 obtain ⟨a,ks,c,l,b,rfl,A,r⟩:=hrel
 obtain ⟨G,m,hR⟩:=A.out
 have z:=r.eq (B:=raw M o*(raw w.heap.size l*(rw 3 1 (.slice a ks.length c) (ks.map (Value.int .i64))*(core TL L M cap*(chain (ring L ns)*items TI ns)*F)))) (by ac_rfl)
 clear hI q p h6
 rcases JD (P:=Tryz.prog) z m with ⟨T,t⟩|⟨i,k,v,W,w2,hi,t,D,y,Y⟩
 · subst T
   obtain ⟨a4,Q,_,R,I⟩:=hR
   have O:a4= []:=by have:=Q.length_eq;simpa using this.symm
   subst O
   have H:ks.Perm (GH ns):=by simpa[GH] using R
   have s:ks.length<4611686018427387904:=by simp at I;omega
   have j:=JI a ks.length c ks _ wr r s
   rw[Xj H] at j
   have X:=Ek m
   clear z m A Q R I H s r
   go_wp2_with (go_at_call 122;refine j.mono ?_;rintro e w3 ⟨rfl,q⟩)
   go_ret
   refine ⟨a,ks.length,c,rfl,?_⟩
   have g:=Sat.J4 hp X.out.iG (q.take (raw M o))
   refine Sat.Dn (B:=raw w.heap.size l) (g.eq ?_)
   unfold CT
   ac_rfl
 obtain ⟨n,a2,rfl,rfl,s,d⟩:=hR.step hi
 have c2:=aN (F:=rw 3 1 (.slice a ks.length c) (ks.map (Value.int .i64))*F) a2 (y.eq (by ac_rfl))
 have J:(b.eraseIdx i).length<b.length:=by
  have:=(List.getElem?_eq_some_iff.1 hi).1
  rw[List.length_eraseIdx];split<;>omega
 have HL:Aside ((b.eraseIdx i).length<b.length∧gk=b.length):=⟨J,G⟩
 have X:=Ek D
 clear z m A r J G D hi hR
 cases hm:n.Jw with
 | false =>
   rw[hm] at c2 d
   have f:JQ ns (b.eraseIdx i) ks:=by simpa using d
   have HR:=Ek f
   clear f
   clear hm d
   go_wp2
   go_roundg (b.eraseIdx i).length
   case measure=>have:=HL.out;omega
   case rel=>exact ⟨a,ks,c,W,_,rfl,⟨rfl,X.out,HR.out⟩,y.eq (by ac_rfl)⟩
 | true =>
   rw[hm] at c2 d
   have f:JQ ns (b.eraseIdx i) (ks++ [n.key]):=by simpa using d
   have HR:=Ek f
   clear f
   clear hm d
   have g:=y.alloc #[.int .i64 n.key] 3
   have V:=g.take (rw 3 1 (.slice a ks.length c) (ks.map (Value.int .i64)))
   have hx:=Src.Oh (P:=Tryz.prog) g rfl
   clear g
   go_wp2_with (at_builtin;refine Af E rfl (.tmp 22) (.tmp 24) rfl rfl rfl V hx (by unfold maxLen;omega) (by omega) ?_;intro a' c' w' a3 K;clear K V hx)
   go_roundg (b.eraseIdx i).length
   case measure=>have:=HL.out;omega
   refine ⟨a',ks++ [n.key],c',W,_,by simp,⟨rfl,X.out,HR.out⟩,?_⟩
   simp only[List.length_append,List.length_cons,List.length_nil,List.map_append,List.map_cons,List.map_nil,Nat.zero_add]
   refine Sat.Dn (B:=block w2.heap.size 3 [.int .i64 n.key]) (a3.eq ?_)
   ac_rfl
structure It where
 key:Int
 pins:Int
 Jw:Bool
def Fj(n:Nd):It:=⟨n.key,n.pins,n.Jw⟩
def Bw(its:List It)(k:Int):Bool:=its.any fun n=>n.key==k
def Gq(its:List It)(k:Int):List It:=its.filter fun n=>n.key !=k
def Ff(its:List It)(k:Int):List It:=Gq its k++its.filter fun n=>n.key==k
def Tq(f:It→It)(its:List It)(k:Int):List It:=its.map fun n=>if n.key=k then f n else n
def NR(its:List It):Option It:=its.find? fun n=>n.pins==0
def DD(its:List It)(k:Int):Bool:=its.any fun n=>n.key==k&&n.pins==0
def BI(its:List It):List Int:=Di ((its.filter (·.Jw)).map (·.key))
def D5(its:List It):List Int:=its.map (·.key)
def Bv(its:List It)(k:Int)(a:Bool):List It:=Tq (fun n=> { n with Jw:=a }) its k
def C6(L:Nat)(cap:Int)(its:List It):Ab:=ex fun x:Nat×List Nd=>dX (x.2.map Fj=its)*CT TL TI L x.1 cap x.2
theorem Sat.Ho{L:Nat}{cap:Int}{its:List It}{F:Ab}{w:World}(hs:Sat (C6 L cap its*F) w): ∃M ns,ns.map Fj=its∧Sat (CT TL TI L M cap ns*F) w:=by
 obtain ⟨⟨M,ns⟩,h⟩:=hs.NZ
 rw[Ax] at h
 obtain ⟨h1,a⟩:=h.H3
 grind
theorem Sat.Hq{L M:Nat}{cap:Int}{ns:List Nd}{its:List It}{F:Ab}{w:World}(h1:ns.map Fj=its)(hs:Sat (CT TL TI L M cap ns*F) w):Sat (C6 L cap its*F) w:=by
 refine Sat.Oa (M,ns) ?_
 rw[Ax]
 exact Sat.LR h1 hs
theorem fF(ns:List Nd):(ns.map Fj).map (·.key)=ns.map (·.key):=by simp[Fj,Function.comp_def]
theorem Wl(ns:List Nd)(k:Int):Bw (ns.map Fj) k=hasB ns k:=by simp[Bw,hasB,Fj,List.any_map,Function.comp_def]
theorem bQ(ns:List Nd)(k:Int):(Qo ns k).map Fj=Gq (ns.map Fj) k:=by simp[Gq,Qo,Fj,List.filter_map,Function.comp_def]
theorem kL(ns:List Nd)(k:Int):(Xx ns k).map Fj=Ff (ns.map Fj) k:=by simp[Xx,Ff,List.map_append,bQ,Fj,List.filter_map,Function.comp_def]
theorem fL(ns:List Nd)(k:Int)(a:Bool):(kO (fun n=> { n with Jw:=a }) ns k).map Fj=Bv (ns.map Fj) k a:=by
 unfold kO Bv Tq
 rw[List.map_map,List.map_map]
 apply List.map_congr_left
 intro n _
 by_cases h:n.key=k<;>simp[Function.comp,Fj,h]
theorem jR(ns:List Nd):NR (ns.map Fj)=(MC ns).map Fj:=by
 unfold NR MC
 rw[List.find?_map];rfl
theorem eR(ns:List Nd)(k:Int):DD (ns.map Fj) k=ns.any fun n=>n.key==k&&n.pins==0:=by simp[DD,Fj,List.any_map,Function.comp_def]
theorem Zs(ns:List Nd):BI (ns.map Fj)=Di (GH ns):=by simp[BI,GH,Fj,List.filter_map,Function.comp_def]
structure Ez (its:List It):Prop where
 nd:(D5 its).Nodup
 pins: ∀n∈its,0≤n.pins
 len:its.length≤4096
theorem Ez.fD{ns:List Nd}(h:Ez (ns.map Fj)):Jc ns:=by
 have:=h.nd
 unfold D5 at this
 rw[fF] at this
 exact this
theorem Ez.lG{ns:List Nd}(h:Ez (ns.map Fj)): ∀n∈ns,0≤n.pins:=fun n a=>h.pins (Fj n) (List.mem_map.2 ⟨n,a,rfl⟩)
theorem kK(L:Nat)(cap:Int)(its:List It)(k:Int)(F:Ab)(w:World)(hs:Sat (C6 L cap its*F) w)(ok:Ez its):
 Calls Tryz.prog 180 #[.pointer (some ⟨L,0,none⟩),.int .i64 k] w fun e a=>e= .returned (.bool (Bw its k))∧Sat (C6 L cap (Ff its k)*F) a:=by
 obtain ⟨M,ns,rfl,h⟩:=Sat.Ho hs
 rw[Wl]
 exact (gS L M cap ns k F w h ok.fD).mono fun e a ⟨h1,b⟩=>⟨h1,Sat.Hq (kL ns k) b⟩
theorem aS(L:Nat)(cap:Int)(its:List It)(k:Int)(a:Bool)(F:Ab)(w:World)(hs:Sat (C6 L cap its*F) w)(ok:Ez its):
 Calls Tryz.prog 148 #[.pointer (some ⟨L,0,none⟩),.int .i64 k,.bool a] w fun e b=>e= .returned (.bool (Bw its k))∧Sat (C6 L cap (Bv its k a)*F) b:=by
 obtain ⟨M,ns,rfl,h⟩:=Sat.Ho hs
 rw[Wl]
 exact (aU L M cap ns k a F w h ok.fD).mono fun e b ⟨h1,c⟩=>⟨h1,Sat.Hq (fL ns k a) c⟩
theorem gY(L:Nat)(cap:Int)(its:List It)(k:Int)(F:Ab)(w:World)(hs:Sat (C6 L cap its*F) w)(ok:Ez its):
 Calls Tryz.prog 164 #[.pointer (some ⟨L,0,none⟩),.int .i64 k] w fun e a=>e= .returned (.bool (DD its k))∧Sat (C6 L cap (if DD its k then Gq its k else its)*F) a:=by
 obtain ⟨M,ns,rfl,h⟩:=Sat.Ho hs
 rw[eR]
 refine (n7 L M cap ns k F w h ok.fD ok.lG).mono fun e a ⟨h1,b⟩=>⟨h1,Sat.Hq ?_ b⟩
 split
 ·exact bQ ns k
 rfl
theorem Yk(L:Nat)(cap:Int)(its:List It)(F:Ab)(w:World)(hs:Sat (C6 L cap its*F) w):
 Calls Tryz.prog 252 #[.pointer (some ⟨L,0,none⟩)] w fun e a=>e= .returned (.tuple #[.int .i64 (((NR its).map (·.key)).getD 0),.bool (NR its).isSome])∧w=a:=by
 obtain ⟨M,ns,rfl,h⟩:=Sat.Ho hs
 have:=KN L M cap ns F w h
 unfold Z1 S2 at this
 rw[jR]
 simpa[Fj,Function.comp_def] using this
theorem Yd(L:Nat)(cap:Int)(its:List It)(F:Ab)(w:World)(hs:Sat (C6 L cap its*F) w)(ok:Ez its):
 Calls Tryz.prog 100 #[.pointer (some ⟨L,0,none⟩)] w fun e b=> ∃a n c,e= .returned (.slice a n c)∧Sat (rw 3 1 (.slice a n c) ((BI its).map (Value.int .i64))*(C6 L cap its*F)) b:=by
 obtain ⟨M,ns,rfl,h⟩:=Sat.Ho hs
 rw[Zs]
 refine (Wy L M cap ns F w h (by have:=ok.len;simpa using this)).mono ?_
 rintro e b ⟨a,n,c,rfl,d⟩
 refine ⟨a,n,c,rfl,?_⟩
 have f:=Sat.Hq (its:=ns.map Fj) rfl (d.eq (BE _ _ _))
 exact f.eq (BE _ _ _)
theorem mN(L:Nat)(cap:Int)(its:List It)(k:Int)(F:Ab)(w:World)(hs:Sat (C6 L cap its*F) w)(ok:Ez its)(i:Bw its k=false)(d:(its.length:Int)≠cap):
 Calls Tryz.prog 230 #[.pointer (some ⟨L,0,none⟩),.int .i64 k] w fun e j=>e= .returned (.tuple #[.int .i64 0,.bool false,.int .i64 0])∧Sat (C6 L cap (its++ [⟨k,0,false⟩])*F) j:=by
 obtain ⟨M,ns,rfl,h⟩:=Sat.Ho hs
 rw[Wl] at i
 rw[List.length_map] at d
 refine (eI L M cap ns k F w h ok.fD).mono ?_
 rintro e j ⟨g,n,c,m,rfl,h1,l⟩
 rcases h1 with ⟨f,_⟩|⟨_,_,rfl,rfl,rfl,b,rfl⟩|⟨_,a,_⟩|⟨_,a,_⟩
 ·rw[i] at f;cases f
 ·exact ⟨rfl,Sat.Hq (by simp[Fj]) l⟩
 ·exact absurd a d
 exact absurd a d
