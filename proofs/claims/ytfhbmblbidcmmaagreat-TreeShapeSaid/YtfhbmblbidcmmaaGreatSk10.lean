/- treeShape holds for every input. No condition. (part 10) -/
import Derived.Test.YtfhbmblbidcmmaaGreatSk8
import Derived.Test.YtfhbmblbidcmmaaGreatSk2
set_option linter.all false
set_option maxHeartbeats 400000
namespace Go.Proofs.YtfhbmblbidcmmaaGreat
open Go.RowKit Go.Sl Go.QK
theorem o6: ∃i,CJ Tryz.prog 45 3 1 8 i (.int .i64 0):=IQ Tryz.underlying45 (by kernel_rfl) rfl (by omega)
def eL(cap:Int)(ns:List Nd)(k g:Int)(h:Bool)(c:Int)(a:List Nd):Prop:=
 (hasB ns k=true∧g=0∧h=false∧c=1∧a=ns)∨
 (hasB ns k=false∧(ns.length:Int)≠cap∧g=0∧h=false∧c=0∧ ∃b,a=ns++ [⟨b,k,0,false⟩])∨
 (hasB ns k=false∧(ns.length:Int)=cap∧LZ ns=none∧g=0∧h=false∧c=9∧a=ns)∨
 (hasB ns k=false∧(ns.length:Int)=cap∧ ∃n,LZ ns=some n∧g=n.key∧h=true∧c=0∧ ∃b,a=Px ns n.key++ [⟨b,k,0,false⟩])
def i'(L M:Nat)(cap:Int)(ns:List Nd)(k:Int)(F:Ac)(e:Ending)(b:World):Prop:=
 ∃g h c a,e= .returned (.tuple #[.int .i64 g,.bool h,.int .i64 c])∧eL cap ns k g h c a∧Sat (CN TL TI L M cap a*F) b
theorem l0(L M:Nat)(cap:Int)(ns:List Nd)(k:Int)(F:Ac)(w:World)(hs:Sat (CN TL TI L M cap ns*F) w)(d:IE ns):
 Calls Tryz.prog 230 #[.pointer (some ⟨L,0,none⟩),.int .i64 k] w (i' L M cap ns k F):=by
 cases a:hasB ns k with
 |true=>exact (l6 L M cap ns k F w hs d a).mono fun e i ⟨h1,c⟩=>⟨0,false,1,ns,h1,.inl ⟨a,rfl,rfl,rfl,rfl⟩,c▸hs⟩
 | false =>
  cases hl:((ns.length:Int)==cap) with
  | false =>
   refine (YE L M cap ns k F w hs d a hl).mono fun e i ⟨b,h1,c⟩=>⟨0,false,0,_,h1,.inr (.inl ⟨a,by simpa using hl,rfl,rfl,rfl,b,rfl⟩),c⟩
  | true =>
   cases g:LZ ns with
   | none =>
    have hb:Rv ns=false:=by unfold Rv;rw[g];rfl
    exact (Xb L M cap ns k F w hs d a hl hb).mono fun e i ⟨h1,c⟩=>⟨0,false,9,ns,h1,.inr (.inr (.inl ⟨a,by simpa using hl,g,rfl,rfl,rfl,rfl⟩)),c⟩
   | some n =>
    obtain ⟨l1,l2,f⟩:=List.append_of_mem (List.mem_of_find?_eq_some g)
    refine (YD L M cap ns k F w hs d a hl l1 n l2 f g).mono fun e i ⟨b,h1,c⟩=>⟨n.key,true,0,_,h1,.inr (.inr (.inr ⟨a,by simpa using hl,n,g,rfl,rfl,rfl,b,?_⟩)),c⟩
    rw[f] at d⊢
    rw[Ip d]
def Gx(ns:List Nd):List Int:=(ns.filter (·.Jg)).map (·.key)
theorem VJ{l l':List Int}(h:l.Perm l'):Em l=Em l':=by
 have g: ∀a b c:Int,decide (a≤b)=true→decide (b≤c)=true→decide (a≤c)=true:=by intro a b c;simp;omega
 have d: ∀a b:Int,(decide (a≤b)||decide (b≤a))=true:=by intro a b;simp;omega
 have h1:=List.pairwise_mergeSort g d l
 have i:=List.pairwise_mergeSort g d l'
 have hp:(Em l).Perm (Em l'):=(List.mergeSort_perm l _).trans (h.trans (List.mergeSort_perm l' _).symm)
 exact hp.eq_of_pairwise (fun a b _ _ e f=>by simp at e f;omega) h1 i
theorem XU{a:List (Int×Value)}{b:List Nd}(h:a.Perm (b.map kv)){i:Nat}{p:Int×Value}(hi:a[i]?=some p):
 ∃l1 n l2,b=l1++n::l2∧kv n=p∧(a.eraseIdx i).Perm ((l1++l2).map kv):=by
 have hm:=h.mem_iff.1 (List.mem_of_getElem? hi)
 obtain ⟨n,d,rfl⟩:=List.mem_map.1 hm
 obtain ⟨l1,l2,rfl⟩:=List.append_of_mem d
 refine ⟨l1,n,l2,rfl,rfl,?_⟩
 have h1:=Fo a i _ hi
 have c:((l1++n::l2).map kv).Perm (kv n::(l1++l2).map kv):=by simp
 exact (List.perm_cons _).1 (h1.symm.trans (h.trans c))
def JA(ns:List Nd)(b:List (Int×Value))(ks:List Int):Prop:= ∃a:List Nd,b.Perm (a.map kv)∧(∀n∈a,n∈ns)∧(ks++Gx a).Perm (Gx ns)∧ks.length+a.length≤ns.length
theorem JA.step{ns:List Nd}{c:List (Int×Value)}{ks:List Int}(h:JA ns c ks){i:Nat}{k:Int}{v:Value}(hi:c[i]?=some (k,v)):
 ∃n∈ns,k=n.key∧v= .pointer (some ⟨n.b,0,none⟩)∧ks.length<ns.length∧JA ns (c.eraseIdx i) (if n.Jg then ks++ [n.key] else ks):=by
 obtain ⟨g,h1,d,e,f⟩:=h
 obtain ⟨l1,n,l2,rfl,a,hp⟩:=XU h1 hi
 simp only[kv,Prod.mk.injEq] at a
 simp only[List.length_append,List.length_cons] at f
 refine ⟨n,d n (by simp),a.1.symm,a.2.symm,by omega,l1++l2,hp,fun m hm=>d m (by simp only[List.mem_append,List.mem_cons] at hm⊢;rcases hm with h|h<;>simp[h]),?_,?_⟩
 ·refine List.Perm.trans ?_ e
  unfold Gx
  grind
 grind
theorem Zt{L M:Nat}{cap:Int}{ns:List Nd}{n:Nd}(a:n∈ns){o e:Obj}{d:Nat}{F:Ac}{w:World}(hs:Sat (raw M o*(raw d e*(core TL L M cap*(chain (ring L ns)*items TI ns)*F))) w):
 w.cell? ⟨n.b,2,none⟩=some (.bool n.Jg):=by
 obtain ⟨l1,l2,rfl⟩:=List.append_of_mem a
 rw[Dx,items] at hs
 unfold item at hs
 exact hs.c n.b 2
theorem Ve(L M:Nat)(cap:Int)(ns:List Nd)(F:Ac)(w:World)(hs:Sat (CN TL TI L M cap ns*F) w)(hn:ns.length≤4096):
 Calls Tryz.prog 100 #[.pointer (some ⟨L,0,none⟩)] w fun e w'=> ∃a n c,e= .returned (.slice a n c)∧Sat (rw 3 1 (.slice a n c) ((Em (Gx ns)).map (Value.int .i64))*(CN TL TI L M cap ns*F)) w':=by
 obtain ⟨i0,E⟩:=o6
 have u:Sat (core TL L M cap*(Jn M ns*(chain (ring L ns)*items TI ns))*F) w:=hs
 have h6:=u.c L 6
 obtain ⟨ms,o,hp,ho,x⟩:=Sat.Ge (u.take (Jn M ns))
 obtain ⟨Z,hI,p⟩:=Iz (P:=Tryz.prog) Tryz.underlying267 x.obj ho
 have U:=x.Dh Z
 have q:Sat (raw M o*(raw w.heap.size Z*(core TL L M cap*(chain (ring L ns)*items TI ns)*F))) (w.alloc Z):=U.eq (by ac_rfl)
 clear U x u hs
 go_enter Tryz.func100,Tryz.ntmps100
 go_wp2
 go_loopg [3] ns.length (fun k out wr=> ∃(a:Option Addr)(ks:List Int)(c:Nat)(l:Obj)(b:List (Int×Value)),out= .slice a ks.length c∧Aside (k=b.length∧Iter A8 M o l ms b∧JA ns b ks)∧
  Sat (rw 3 1 (.slice a ks.length c) (ks.map (Value.int .i64))*(raw M o*(raw w.heap.size l*(core TL L M cap*(chain (ring L ns)*items TI ns)*F)))) wr)
 case atStart=>exact ⟨none,[],0,Z,ms,rfl,⟨by simpa using hp.length_eq.symm,hI,ns,hp,fun _ h=>h,by simp,by simp⟩,q.AH⟩
 obtain ⟨a,ks,c,l,b,rfl,A,r⟩:=hrel
 obtain ⟨G,m,hR⟩:=A.out
 have z:=r.eq (B:=raw M o*(raw w.heap.size l*(rw 3 1 (.slice a ks.length c) (ks.map (Value.int .i64))*(core TL L M cap*(chain (ring L ns)*items TI ns)*F)))) (by ac_rfl)
 clear hI q p h6
 rcases Jw (P:=Tryz.prog) z m with ⟨T,t⟩|⟨i,k,v,W,w2,hi,t,D,y,Y⟩
 · subst T
   obtain ⟨a4,Q,_,R,I⟩:=hR
   have O:a4= []:=by have:=Q.length_eq;simpa using this.symm
   subst O
   have H:ks.Perm (Gx ns):=by simpa[Gx] using R
   have s:ks.length<4611686018427387904:=by simp at I;omega
   have j:=MK a ks.length c ks _ wr r s
   rw[VJ H] at j
   have X:=FK m
   clear z m A Q R I H s r
   go_wp2_with (go_at_call 122;refine j.mono ?_;rintro e w3 ⟨rfl,q⟩)
   go_ret
   refine ⟨a,ks.length,c,rfl,?_⟩
   have g:=Sat.Jo hp X.out.cH (q.take (raw M o))
   refine Sat.Dq (B:=raw w.heap.size l) (g.eq ?_)
   unfold CN
   ac_rfl
 obtain ⟨n,a2,rfl,rfl,s,d⟩:=hR.step hi
 have c2:=Zt (F:=rw 3 1 (.slice a ks.length c) (ks.map (Value.int .i64))*F) a2 (y.eq (by ac_rfl))
 have J:(b.eraseIdx i).length<b.length:=by
  have:=(List.getElem?_eq_some_iff.1 hi).1
  rw[List.length_eraseIdx];split<;>omega
 have HL:Aside ((b.eraseIdx i).length<b.length∧gk=b.length):=⟨J,G⟩
 have X:=FK D
 clear z m A r J G D hi hR
 cases hm:n.Jg with
 | false =>
   rw[hm] at c2 d
   have f:JA ns (b.eraseIdx i) ks:=by simpa using d
   have HR:=FK f
   clear f
   clear hm d
   go_wp2
   go_roundg (b.eraseIdx i).length
   case measure=>have:=HL.out;omega
   case rel=>exact ⟨a,ks,c,W,_,rfl,⟨rfl,X.out,HR.out⟩,y.eq (by ac_rfl)⟩
 | true =>
   rw[hm] at c2 d
   have f:JA ns (b.eraseIdx i) (ks++ [n.key]):=by simpa using d
   have HR:=FK f
   clear f
   clear hm d
   have g:=y.alloc #[.int .i64 n.key] 3
   have V:=g.take (rw 3 1 (.slice a ks.length c) (ks.map (Value.int .i64)))
   have hx:=Src.Nh (P:=Tryz.prog) g rfl
   clear g
   go_wp2_with (at_builtin;refine Ad E rfl (.tmp 22) (.tmp 24) rfl rfl rfl V hx (by unfold maxLen;omega) (by omega) ?_;intro a' c' w' a3 K;clear K V hx)
   go_roundg (b.eraseIdx i).length
   case measure=>have:=HL.out;omega
   refine ⟨a',ks++ [n.key],c',W,_,by simp,⟨rfl,X.out,HR.out⟩,?_⟩
   simp only[List.length_append,List.length_cons,List.length_nil,List.map_append,List.map_cons,List.map_nil,Nat.zero_add]
   refine Sat.Dq (B:=block w2.heap.size 3 [.int .i64 n.key]) (a3.eq ?_)
   ac_rfl
structure It where
 key:Int
 pins:Int
 Jg:Bool
def ES(n:Nd):It:=⟨n.key,n.pins,n.Jg⟩
def Bo(its:List It)(k:Int):Bool:=its.any fun n=>n.key==k
def Gc(its:List It)(k:Int):List It:=its.filter fun n=>n.key !=k
def EK(its:List It)(k:Int):List It:=Gc its k++its.filter fun n=>n.key==k
def Sf(f:It→It)(its:List It)(k:Int):List It:=its.map fun n=>if n.key=k then f n else n
def MQ(its:List It):Option It:=its.find? fun n=>n.pins==0
def D1(its:List It)(k:Int):Bool:=its.any fun n=>n.key==k&&n.pins==0
def BE(its:List It):List Int:=Em ((its.filter (·.Jg)).map (·.key))
def Du(its:List It):List Int:=its.map (·.key)
def Bm(its:List It)(k:Int)(a:Bool):List It:=Sf (fun n=> { n with Jg:=a }) its k
def C8(L:Nat)(cap:Int)(its:List It):Ac:=ex fun x:Nat×List Nd=>i6 (x.2.map ES=its)*CN TL TI L x.1 cap x.2
theorem Sat.Ha{L:Nat}{cap:Int}{its:List It}{F:Ac}{w:World}(hs:Sat (C8 L cap its*F) w): ∃M ns,ns.map ES=its∧Sat (CN TL TI L M cap ns*F) w:=by
 obtain ⟨⟨M,ns⟩,h⟩:=hs.MW
 rw[Az] at h
 obtain ⟨h1,a⟩:=h.Ho
 grind
theorem Sat.Hb{L M:Nat}{cap:Int}{ns:List Nd}{its:List It}{F:Ac}{w:World}(h1:ns.map ES=its)(hs:Sat (CN TL TI L M cap ns*F) w):Sat (C8 L cap its*F) w:=by
 refine Sat.MX (M,ns) ?_
 rw[Az]
 exact Sat.Lv h1 hs
theorem x'(ns:List Nd):(ns.map ES).map (·.key)=ns.map (·.key):=by simp[ES,Function.comp_def]
theorem UT(ns:List Nd)(k:Int):Bo (ns.map ES) k=hasB ns k:=by simp[Bo,hasB,ES,List.any_map,Function.comp_def]
theorem ZC(ns:List Nd)(k:Int):(Px ns k).map ES=Gc (ns.map ES) k:=by simp[Gc,Px,ES,List.filter_map,Function.comp_def]
theorem eG(ns:List Nd)(k:Int):(VU ns k).map ES=EK (ns.map ES) k:=by simp[VU,EK,List.map_append,ZC,ES,List.filter_map,Function.comp_def]
theorem aB(ns:List Nd)(k:Int)(a:Bool):(eI (fun n=> { n with Jg:=a }) ns k).map ES=Bm (ns.map ES) k a:=by
 unfold eI Bm Sf
 rw[List.map_map,List.map_map]
 apply List.map_congr_left
 intro n _
 by_cases h:n.key=k<;>simp[Function.comp,ES,h]
theorem dL(ns:List Nd):MQ (ns.map ES)=(LZ ns).map ES:=by
 unfold MQ LZ
 rw[List.find?_map];rfl
theorem n9(ns:List Nd)(k:Int):D1 (ns.map ES) k=ns.any fun n=>n.key==k&&n.pins==0:=by simp[D1,ES,List.any_map,Function.comp_def]
theorem XH(ns:List Nd):BE (ns.map ES)=Em (Gx ns):=by simp[BE,Gx,ES,List.filter_map,Function.comp_def]
structure Ei (its:List It):Prop where
 nd:(Du its).Nodup
 pins: ∀n∈its,0≤n.pins
 len:its.length≤4096
theorem Ei.x9{ns:List Nd}(h:Ei (ns.map ES)):IE ns:=by
 have:=h.nd
 unfold Du at this
 rw[x'] at this
 exact this
theorem Ei.eV{ns:List Nd}(h:Ei (ns.map ES)): ∀n∈ns,0≤n.pins:=fun n a=>h.pins (ES n) (List.mem_map.2 ⟨n,a,rfl⟩)
theorem eF(L:Nat)(cap:Int)(its:List It)(k:Int)(F:Ac)(w:World)(hs:Sat (C8 L cap its*F) w)(ok:Ei its):
 Calls Tryz.prog 180 #[.pointer (some ⟨L,0,none⟩),.int .i64 k] w fun e a=>e= .returned (.bool (Bo its k))∧Sat (C8 L cap (EK its k)*F) a:=by
 obtain ⟨M,ns,rfl,h⟩:=Sat.Ha hs
 rw[UT]
 exact (bO L M cap ns k F w h ok.x9).mono fun e a ⟨h1,b⟩=>⟨h1,Sat.Hb (eG ns k) b⟩
theorem Zv(L:Nat)(cap:Int)(its:List It)(k:Int)(a:Bool)(F:Ac)(w:World)(hs:Sat (C8 L cap its*F) w)(ok:Ei its):
 Calls Tryz.prog 148 #[.pointer (some ⟨L,0,none⟩),.int .i64 k,.bool a] w fun e b=>e= .returned (.bool (Bo its k))∧Sat (C8 L cap (Bm its k a)*F) b:=by
 obtain ⟨M,ns,rfl,h⟩:=Sat.Ha hs
 rw[UT]
 exact (Zw L M cap ns k a F w h ok.x9).mono fun e b ⟨h1,c⟩=>⟨h1,Sat.Hb (aB ns k a) c⟩
theorem bU(L:Nat)(cap:Int)(its:List It)(k:Int)(F:Ac)(w:World)(hs:Sat (C8 L cap its*F) w)(ok:Ei its):
 Calls Tryz.prog 164 #[.pointer (some ⟨L,0,none⟩),.int .i64 k] w fun e a=>e= .returned (.bool (D1 its k))∧Sat (C8 L cap (if D1 its k then Gc its k else its)*F) a:=by
 obtain ⟨M,ns,rfl,h⟩:=Sat.Ha hs
 rw[n9]
 refine (YV L M cap ns k F w h ok.x9 ok.eV).mono fun e a ⟨h1,b⟩=>⟨h1,Sat.Hb ?_ b⟩
 split
 ·exact ZC ns k
 rfl
theorem WD(L:Nat)(cap:Int)(its:List It)(F:Ac)(w:World)(hs:Sat (C8 L cap its*F) w):
 Calls Tryz.prog 252 #[.pointer (some ⟨L,0,none⟩)] w fun e a=>e= .returned (.tuple #[.int .i64 (((MQ its).map (·.key)).getD 0),.bool (MQ its).isSome])∧w=a:=by
 obtain ⟨M,ns,rfl,h⟩:=Sat.Ha hs
 have:=Ks L M cap ns F w h
 unfold XP Rv at this
 rw[dL]
 simpa[ES,Function.comp_def] using this
theorem W9(L:Nat)(cap:Int)(its:List It)(F:Ac)(w:World)(hs:Sat (C8 L cap its*F) w)(ok:Ei its):
 Calls Tryz.prog 100 #[.pointer (some ⟨L,0,none⟩)] w fun e b=> ∃a n c,e= .returned (.slice a n c)∧Sat (rw 3 1 (.slice a n c) ((BE its).map (Value.int .i64))*(C8 L cap its*F)) b:=by
 obtain ⟨M,ns,rfl,h⟩:=Sat.Ha hs
 rw[XH]
 refine (Ve L M cap ns F w h (by have:=ok.len;simpa using this)).mono ?_
 rintro e b ⟨a,n,c,rfl,d⟩
 refine ⟨a,n,c,rfl,?_⟩
 have f:=Sat.Hb (its:=ns.map ES) rfl (d.eq (BC _ _ _))
 exact f.eq (BC _ _ _)
theorem fU(L:Nat)(cap:Int)(its:List It)(k:Int)(F:Ac)(w:World)(hs:Sat (C8 L cap its*F) w)(ok:Ei its)(i:Bo its k=false)(d:(its.length:Int)≠cap):
 Calls Tryz.prog 230 #[.pointer (some ⟨L,0,none⟩),.int .i64 k] w fun e j=>e= .returned (.tuple #[.int .i64 0,.bool false,.int .i64 0])∧Sat (C8 L cap (its++ [⟨k,0,false⟩])*F) j:=by
 obtain ⟨M,ns,rfl,h⟩:=Sat.Ha hs
 rw[UT] at i
 rw[List.length_map] at d
 refine (l0 L M cap ns k F w h ok.x9).mono ?_
 rintro e j ⟨g,n,c,m,rfl,h1,l⟩
 rcases h1 with ⟨f,_⟩|⟨_,_,rfl,rfl,rfl,b,rfl⟩|⟨_,a,_⟩|⟨_,a,_⟩
 ·rw[i] at f;cases f
 ·exact ⟨rfl,Sat.Hb (by simp[ES]) l⟩
 ·exact absurd a d
 exact absurd a d
