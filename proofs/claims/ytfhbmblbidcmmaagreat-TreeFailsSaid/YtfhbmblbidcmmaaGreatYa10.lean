/- treeFails holds for every input. No condition. (part 10) -/
import Derived.Test.YtfhbmblbidcmmaaGreatYa8
import Derived.WalkSpells
set_option linter.all false
set_option maxRecDepth 100000
set_option maxHeartbeats 4000000
namespace Go.Proofs.YtfhbmblbidcmmaaGreat
open Go.RowKit Go.Sl Go.Dk
def Wa(B:Ac)(v:Value)(zs:List Int):Prop:= ∀(F:Ac)(w:World),Sat (B*F) w→Ints w v zs
theorem ZV(w:World):(zeroValue 4).run Tryz.prog w= .ok (.bool false) w:=by kernel_rfl
theorem Wo(D M : Nat)(ns : List Nf)(pv : Value)(ps : List Np)(d : Dk)(m : Nat)(r : List Int)(v : Value)(B F : Ac)(w : World)(hP : Wa B v r)(hs : Sat (AS D M ns pv ps d * (B * F)) w)(hf : BE ns = d.files)(hp : B4 ps = d.AO)
 (gx:r.length≤9223372036854775807) (ok:Ok m d) (gy:m≤1099511627776):
 Calls Tryz.prog 43 #[.pointer (some ⟨D,0,none⟩),v] w fun e w'=> ∃ψ φ,e= .returned (.tuple #[])∧
  Sat (AS D M ((ns.map (Kj (DJ r 0 (B4 ps)) ψ)).filterMap (Kk (DJ r 0 (B4 ps)) [] φ)) (.slice none 0 0) [] { d with down:=false,D5:=false } *(B*F)) w':=by
 obtain ⟨i0,E⟩:=Ez
 have gz:= @run_makeMap Tryz.prog
 have gw:=fun(w:World)(a:Option Addr)(n c:Nat)=>Lib.run_eql_slice_nil (P:=Tryz.prog) w 26 TB a n c 0 0 Tryz.underlying26
 obtain ⟨xa,xc,rfl⟩:=(hP _ _ (hs.take B)).len
 have ee:(ns.map (·.nm)).Nodup:=by have:=ok.nd;rw[←hf] at this;simpa[BE,Function.comp_def] using this
 have eo: ∀n∈ns,n.f.now.length≤1099511627776∧n.f.safe.length≤1099511627776:=fun n hn=>ok.sz (n.nm,n.f) (by rw[←hf];exact List.mem_map.2 ⟨n,hn,rfl⟩)
 have h1:ps.length≤1099511627776:=by have:=ok.AO;rw[←hp] at this;simp[B4] at this;omega
 have cz:Aside (Ok m d∧BE ns=d.files∧B4 ps=d.AO):=⟨ok,hf,hp⟩
 have b3:Aside ((ns.map (·.nm)).Nodup∧(∀n∈ns,n.f.now.length≤1099511627776∧n.f.safe.length≤1099511627776)):=⟨ee,eo⟩
 clear ok hf hp ee eo
 have a1:=hs.CH (.map #[] 0)
 have a2:Sat (mp B9 w.heap.size []*(AS D M ns pv ps d*(B*F))) (w.alloc (.map #[] 0)):=Sat.Dn ⟨#[],0,rfl,rfl,by simp,by simp⟩ a1
 have em:Sat (Ax D M pv d*(mp B9 M (ns.map CA)*(A0 ns*(Cp pv ps*(mp B9 w.heap.size []*(B*F)))))) (w.alloc (.map #[] 0)):=a2.eq (by unfold AS;ac_rfl)
 have c5:w.cell? ⟨D,5,none⟩=some (.map (some M)):=by unfold AS Ax at hs;exact hs.c D 5
 have hD:D<w.heap.size:=World.block_lt_of_cell? _ _ c5
 obtain ⟨K,HK⟩: ∃K,Aside (w.heap.size=K):=⟨_,rfl⟩
 obtain ⟨o,ho,df⟩:=(em.take (mp B9 M (ns.map CA))).Ct
 obtain ⟨oi,hI,ac⟩:=E6 (P:=Tryz.prog) Tryz.underlying148 df.obj ho
 have dg:=df.CH oi
 have e0:(w.alloc (.map #[] 0)).heap.size=w.heap.size+1:=by simp
 rw[e0] at dg ac
 have HO:Aside (Fi B9 o (ns.map CA)):=ho
 obtain ⟨G,HG⟩: ∃G,Aside (Ax D M pv d*(Cp pv ps*(mp B9 w.heap.size []*(B*F)))=G):=⟨_,rfl⟩
 have en:Sat (raw M o*(raw (w.heap.size+1) oi*(A0 ns*G))) ((w.alloc (.map #[] 0)).alloc oi):=dg.eq (by rw[←HG.out];ac_rfl)
 clear a1 a2 em df dg e0 ho hs
 go_enter Tryz.func43,Tryz.ntmps43
 go_wp2_with fail
 go_loopg [6] ns.length (fun k t wr=> ∃(φ:ByteArray→Value)(ah:Obj)(u:List (ByteArray×Value))(ba:List Nf),Aside (k=u.length∧Iter B9 M o ah (ns.map CA) u∧u.Perm (ba.map CA)∧(∀n∈ba,n∈ns)∧(u.map (·.1)).Nodup)∧
  Sat (raw M o*(raw (w.heap.size+1) ah*(A0 (ns.map (RZ (u.map (·.1)) φ))*G))) wr)
 case atStart=>
  refine ⟨fun _=>undef,oi,ns.map CA,ns,⟨by simp,hI,.refl _,fun _ h=>h,by rw[I4];exact b3.out.1⟩,?_⟩
  rw[I4,YZ]
  exact en
 obtain ⟨φ,ah,u,ba,A,an⟩:=hrel
 obtain ⟨b5,ai,af,a4,b9⟩:=A.out
 clear hI en ac c5
 rcases Ft (P:=Tryz.prog) an ai with ⟨c7,b6⟩|⟨i,k,vv,aa,w2,hi,b6,be,a9,cj⟩
 · subst c7
   have HI:Aside (Iter B9 M o ah (ns.map CA) []):=ai
   have ep:=cz.out
   have a9:=Sat.Dn HI.out.Un an
   obtain ⟨pa,pn,pc,fn,ek⟩: ∃a n c,pv= .slice a n c∧(B6 ps).length=n*3∧n≤c∧c≤9223372036854775807:=Oo (F:=mp B9 M (ns.map CA)*(raw (w.heap.size+1) ah*(A0 (ns.map (RZ [] φ))*(Ax D M pv d*(AM ps*(mp B9 w.heap.size []*(B*F))))))) (a9.eq (by rw[←HG.out];unfold Cp;simp only[List.map_nil];ac_rfl))
   obtain ⟨cu,g5,g7⟩:=ek
   rw[Jo] at cu
   obtain rfl:ps.length=pn:=by omega
   subst fn
   have V:Sat (Ax D M (.slice pa ps.length pc) d*(mp B9 M (ns.map CA)*(A0 (ns.map (Kj [] φ))*(rw TP 3 (.slice pa ps.length pc) (B6 ps)*(AM ps*(mp B9 w.heap.size []*(B*F))))))) wr:=by
    refine Sat.CR (B:=raw (w.heap.size+1) ah) (a9.eq ?_)
    rw[←HG.out,←o7]
    unfold Cp
    simp only[List.map_nil]
    ac_rfl
   have c6:wr.cell? ⟨D,6,none⟩=some (.slice pa ps.length pc):=by unfold Ax at V;exact V.c D 6
   clear HG a9 an ai A b5 af a4 b9 cu ep HO
   go_wp2_with fail
   go_loopg [38] ps.length (fun g t wq=> ∃(j:Nat)(ψ:ByteArray→Value)(kl:List (ByteArray×Value)),t= .int .i64 j∧j≤ps.length∧Aside (g=ps.length-j∧Hf (DJ r 0 (B4 (ps.take j))) kl)∧
    Sat (Ax D M (.slice pa ps.length pc) d*(mp B9 M (ns.map CA)*(A0 (ns.map (Kj (DJ r 0 (B4 (ps.take j))) ψ))*(rw TP 3 (.slice pa ps.length pc) (B6 ps)*(AM ps*(mp B9 w.heap.size kl*(B*F))))))) wq)
   case atStart=>exact ⟨0,φ,[],rfl,by omega,⟨rfl,fun s=>rfl⟩,by simpa[B4,DJ] using V⟩
   obtain ⟨j,ψ,kl,rfl,hj,A2,Q⟩:=hrel
   clear V c6
   by_cases fk:j<ps.length
   · have e7 : (j : Int) < ps.length := by omega
     obtain ⟨x,hx⟩: ∃x,ps[j]?=some x:=⟨ps[j],by simp[fk]⟩
     obtain ⟨p0,p1,p2⟩:=R9 hx
     obtain ⟨g,rfl,q0,_⟩:=(Q.take (rw TP 3 (.slice pa ps.length pc) (B6 ps))).LH p0
     obtain ⟨_,e1,q1,_⟩:=(Q.take (rw TP 3 (.slice (some ⟨g,0,none⟩) ps.length pc) (B6 ps))).LH p1
     cases e1
     obtain ⟨_,e2,q2,_⟩:=(Q.take (rw TP 3 (.slice (some ⟨g,0,none⟩) ps.length pc) (B6 ps))).LH p2
     cases e2
     obtain ⟨Rp,d8⟩:=Pp (List.mem_of_getElem? hx)
     obtain ⟨ya,yn,yc,dk⟩:=Uw (F:=Rp*(Ax D M (.slice (some ⟨g,0,none⟩) ps.length pc) d*(mp B9 M (ns.map CA)*(A0 (ns.map (Kj (DJ r 0 (B4 (ps.take j))) ψ))*(rw TP 3 (.slice (some ⟨g,0,none⟩) ps.length pc) (B6 ps)*(mp B9 w.heap.size kl*(B*F))))))) (Q.eq (by rw[d8];ac_rfl))
     rw[dk] at q2
     have I:=Q.alloc #[.string x.p.nm,.int .i64 x.p.pos,.slice ya yn yc] TP
     simp only[block,Sl.cells,Bd,List.length_cons,List.length_nil,Nat.zero_add,Nat.reduceAdd] at I
     have HX:Aside (ps[j]?=some x∧AM ps=EX x*Rp∧x.v= .slice ya yn yc):=⟨hx,d8,dk⟩
     have ak:DJ r 0 (B4 (ps.take (j+1)))=DJ r 0 (B4 (ps.take j))++if IE r j then [x.p] else []:=by
      have e3:B4 (ps.take (j+1))=B4 (ps.take j)++ [x.p]:=by rw[AA hx];simp[B4]
      rw[e3,OP]
      have e4:(B4 (ps.take j)).length=j:=by simp[B4];omega
      rw[e4,Nat.zero_add]
     clear hx p0 p1 p2 d8 dk
     have bv:=hP _ _ (I.take B)
     by_cases am:IE r j=true
     · have ad : Aside (DJ r 0 (B4 (ps.take (j + 1))) = DJ r 0 (B4 (ps.take j)) ++ [x.p]) := (by rw [ak, am]; simp : _ = _)
       obtain ⟨z,hz,es⟩: ∃z,r[j%r.length]?=some z∧z%2=1:=by
        unfold IE at am
        cases et:r[j%r.length]? with
        |none=>rw[et] at am;cases am
        |some z=>rw[et] at am;exact ⟨z,rfl,by simpa using am⟩
       have fm:r.length≠0:=by
        intro e0
        have:r= []:=List.length_eq_zero_iff.1 e0
        subst this
        simp at hz
       have ct:((r.length:Int)==0)=false:=by rw[beq_eq_false_iff_ne];omega
       obtain ⟨zb,zo,e5,dl⟩:=bv.at hz
       cases e5
       obtain ⟨q,hq⟩: ∃q:Nat,j%r.length=q:=⟨_,rfl⟩
       rw[hq] at dl hz
       have de:(j:Int)%(r.length:Int)=(q:Nat):=by omega
       have fp:(j:Int).tmod (r.length:Int)=(q:Nat):=by rw[Int.tmod_eq_emod_of_nonneg (by omega)];exact de
       have fo:q<r.length:=by rw[←hq];exact Nat.mod_lt _ (by omega)
       have el:(q:Int)<(r.length:Int):=by omega
       have dy:bits .and .i64 z 1=1:=by rw[Kq];exact es
       obtain ⟨bk,d9,c4⟩:=cz.out
       have ca:x.p∈d.AO:=by rw[←c4];exact List.mem_map.2 ⟨x,List.mem_of_getElem? HX.out.1,rfl⟩
       have er:x.p.pos+(x.p.b.getD []).length≤1099511627776:=bk.pc x.p ca
       have bb:=bk.pn x.p ca
       obtain ⟨l1,n,l2,Y,b7,db⟩: ∃l1 n l2,ns=l1++n::l2∧n.nm=x.p.nm∧ ∀m∈l1,m.nm≠x.p.nm:=by
        rcases Fo ns x.p.nm with h|h
        · exact h
        unfold Dk.get at bb
        rw[←d9,EM h] at bb
        cases bb
       have ag:=I8 (by rw[←Y];exact b3.out.1)
       obtain ⟨L,a6⟩: ∃L,Aside (DJ r 0 (B4 (ps.take j))=L):=⟨_,rfl⟩
       obtain ⟨T,hT⟩: ∃T,(ofName n.nm L).foldl Gu n.f.safe=T:=⟨_,rfl⟩
       have gv:T.length≤1099511627776:=by
        rw[←hT]
        refine Jh _ _ _ (b3.out.2 n (by rw[Y];simp)).2 ?_
        intro p af
        refine bk.pc p ?_
        rw[←c4]
        have h9:=I2 r _ 0 p (by rw[a6.out];exact (List.mem_filter.1 af).1)
        obtain ⟨y,hy,rfl⟩:=List.mem_map.1 h9
        exact List.mem_map.2 ⟨y,List.mem_of_mem_take hy,rfl⟩
       rw[a6.out] at I
       obtain ⟨R,HR⟩: ∃R,Aside (A0 (l1.map (Kj L ψ))*A0 (l2.map (Kj L ψ))=R):=⟨_,rfl⟩
       have bw:A0 (ns.map (Kj L ψ))=Bv { n with f:=⟨T,n.f.safe,n.f.sure⟩,nv:=ψ n.nm } *R:=by
        rw[←HR.out,Y,List.map_append,List.map_cons,Ba,A0]
        have:Kj L ψ n= { n with f:=⟨T,n.f.safe,n.f.sure⟩,nv:=ψ n.nm } :=by unfold Kj;rw[hT]
        rw[this];ac_rfl
       have br:Aside (∀T' nv,Gu T x.p=T'→A0 (ns.map (Kj (L++ [x.p]) (Et ψ x.p.nm nv)))=Bv { n with f:=⟨T',n.f.safe,n.f.sure⟩,nv:=nv } *R):=by
        intro T' nv fi
        rw[←HR.out,Y,List.map_append,List.map_cons,Ba,A0,←P3 (v:=nv) db,←P3 (v:=nv) (by rw[←b7];exact ag.2)]
        have:Kj (L++ [x.p]) (Et ψ x.p.nm nv) n= { n with f:=⟨T',n.f.safe,n.f.sure⟩,nv:=nv } :=by
         unfold Kj
         rw[Gn,if_pos b7.symm,List.foldl_append,hT]
         simp[Et,b7,fi]
        rw[this];ac_rfl
       have ec:(ns.map CA)=(l1++n::l2).map CA:=by rw[Y]
       have H:Sat (Dl wr.heap.size TP 3*(Sl.cell wr.heap.size 0 (.string x.p.nm)*(Sl.cell wr.heap.size 1 (.int .i64 x.p.pos)*(Sl.cell wr.heap.size 2 (.slice ya yn yc)*(Ax D M (.slice (some ⟨g,0,none⟩) ps.length pc) d*(mp B9 M (ns.map CA)*(Bv { n with f:=⟨T,n.f.safe,n.f.sure⟩,nv:=ψ n.nm } *(R*(rw TP 3 (.slice (some ⟨g,0,none⟩) ps.length pc) (B6 ps)*(AM ps*(mp B9 w.heap.size kl*(B*F))))))))))))
        (wr.alloc (.cells #[.string x.p.nm,.int .i64 x.p.pos,.slice ya yn yc] TP)):=I.eq (by rw[bw];ac_rfl)
       have al: ∀k,(Instr.lookup Zx (.map (some M)) (.string x.p.nm) false).run Tryz.prog ((wr.alloc (.cells #[.string x.p.nm,.int .i64 x.p.pos,.slice ya yn yc] TP)).drewN k)= .ok (.pointer (some ⟨n.b,0,none⟩)) ((wr.alloc (.cells #[.string x.p.nm,.int .i64 x.p.pos,.slice ya yn yc] TP)).drewN k):=by
        intro k
        have h8:=(H.drewN k).take (mp B9 M (ns.map CA))
        rw[ec] at h8
        have dv:=I6 h8 (by rw[b7];exact db)
        rw[b7] at dv
        exact dv
       have c5:wr.cell? ⟨D,5,none⟩=some (.map (some M)):=by unfold Ax at Q;exact Q.c D 5
       have gu:D<wr.heap.size:=World.block_lt_of_cell? _ _ c5
       unfold Bv at H
       dsimp only at H
       obtain ⟨va,vc,hv,dh,di⟩:=E7 (H.take (rw TB 1 (ψ n.nm) (A4 T)))
       rw[hv] at H
       have c0:=H.c n.b 0
       have HH:Aside (n.nm=x.p.nm∧Hf L kl):=⟨b7,by rw[←a6.out];exact A2.out.2⟩
       clear bv hz hq ak am es bk d9 c4 bb Y db ag hT bw ec I Q hv ca b7
       cases Z:x.p.b with
       | none =>
         obtain ⟨dj,bi,bj⟩:=HX.out
         have fr:Value.slice ya yn yc= .slice none 0 0:=by
          obtain ⟨F',au⟩: ∃F',Sat (EX x*F') (wr.alloc (.cells #[.string x.p.nm,.int .i64 x.p.pos,.slice ya yn yc] TP)):=⟨_,(H.take (AM ps)).eq (by rw[bi,Ar])⟩
          unfold EX at au
          rw[Z] at au
          rw[←bj]
          exact au.Fp.1
         cases fr
         have HT:Aside (Gu T x.p=T.take x.p.pos):=(by unfold Gu;rw[Z]:Gu T x.p=T.take x.p.pos)
         have cg:Aside (x.p.b=none):=Z
         clear Z dj bi bj c5 c0
         go_upto_region 10 with (fail)
         unfold Ax at H
         generalize wr.alloc _=W1 at H al⊢
         generalize wr.heap.size=Pb at H⊢
         have d5:=H.c D 5
         have d0:=H.c Pb 0
         go_quiet (fail)
         have J:=H.drewN nq
         clear H al d5 d0
         generalize W1.drewN nq=W2 at J⊢
         have d2:=J.c Pb 2
         have d1:=J.c Pb 1
         have e0:=J.c n.b 0
         have f0:=J.f n.b 0
         have aj: ∀hi:Nat,hi≤T.length→Sat (rw TB 1 (.slice (BP va vc 0 1) hi vc) (A4 (T.take hi))*_) W2:=fun hi fj=>by
          have dw:=(J.take (rw TB 1 (.slice va T.length vc) (A4 T))).XA hi fj
          rw[Nat.mul_one,←Ks] at dw
          exact dw
         by_cases h0:T.length<x.p.pos
         · have eb:(T.length:Int)<x.p.pos:=by omega
           have fq:=LP (P:=Tryz.prog) E (a:=va) (n:=T.length) (c:=vc) T.length (by omega)
           have a0:=(aj T.length (by omega)).Et n.b 0 (.slice (BP va vc 0 1) T.length vc)
           have d3:Aside (Gu T x.p=T.take T.length):=(by rw[HT.out,List.take_of_length_le (by omega),List.take_of_length_le (by omega)]:Gu T x.p=T.take T.length)
           clear aj J HT
           go_wp2_with fail
           go_region
           all_goals
            go_wp2
            go_roundg (ps.length-(j+1))
            case measure=>have:=A2.out.1;omega
            refine ⟨j+1,Et ψ x.p.nm (.slice (BP va vc 0 1) T.length vc),kl,by go_num,by omega,⟨rfl,by rw[ad.out,a6.out];exact HH.out.2.cut cg.out⟩,?_⟩
            rw[ad.out,a6.out,br.out _ _ d3.out]
            refine Sat.CR (B:=Dl Pb TP 3*(Sl.cell Pb 0 (.string x.p.nm)*(Sl.cell Pb 1 (.int .i64 x.p.pos)*Sl.cell Pb 2 (.slice none 0 0)))) (Sat.drew (a0.eq ?_))
            unfold Bv Ax
            dsimp only
            ac_rfl
         have eb: ¬(T.length:Int)<x.p.pos:=by omega
         have fq:=LP (P:=Tryz.prog) E (a:=va) (n:=T.length) (c:=vc) x.p.pos (by omega)
         have a0:=(aj x.p.pos (by omega)).Et n.b 0 (.slice (BP va vc 0 1) x.p.pos vc)
         have d3:Aside (Gu T x.p=T.take x.p.pos):=(by rw[HT.out]:Gu T x.p=T.take x.p.pos)
         clear aj J HT
         go_wp2_with fail
         go_region
         all_goals
          go_wp2
          go_roundg (ps.length-(j+1))
          case measure=>have:=A2.out.1;omega
          refine ⟨j+1,Et ψ x.p.nm (.slice (BP va vc 0 1) x.p.pos vc),kl,by go_num,by omega,⟨rfl,by rw[ad.out,a6.out];exact HH.out.2.cut cg.out⟩,?_⟩
          rw[ad.out,a6.out,br.out _ _ d3.out]
          refine Sat.CR (B:=Dl Pb TP 3*(Sl.cell Pb 0 (.string x.p.nm)*(Sl.cell Pb 1 (.int .i64 x.p.pos)*Sl.cell Pb 2 (.slice none 0 0)))) (Sat.drew (a0.eq ?_))
          unfold Bv Ax
          dsimp only
          ac_rfl
       | some l =>
         obtain ⟨dj,bi,bj⟩:=HX.out
         have eg:notNil x.v:=by
          obtain ⟨F',au⟩: ∃F',Sat (EX x*F') (wr.alloc (.cells #[.string x.p.nm,.int .i64 x.p.pos,.slice ya yn yc] TP)):=⟨_,(H.take (AM ps)).eq (by rw[bi,Ar])⟩
          unfold EX at au
          rw[Z] at au
          rw[Ar] at au
          exact au.Fp.1
         have dd:=R7 Z eg
         rw[bj] at dd
         have ds:Aside (AM ps=rw TB 1 (.slice ya yn yc) (A4 l)*Rp):=(by rw[bi,dd]:_=_)
         obtain ⟨gg,hh,hg,cl⟩:=eg
         rw[bj] at cl
         cases cl
         rw[Z] at er
         simp only[Option.getD_some] at er
         have HT:Aside (Gu T x.p=laid T x.p.pos l):=(by unfold Gu;rw[Z]:Gu T x.p=laid T x.p.pos l)
         have cg:Aside (x.p.b.isSome=true):=(by rw[Z];rfl:x.p.b.isSome=true)
         clear Z dj bi bj c5 c0 dd
         go_upto_region 10 with (fail)
         unfold Ax at H
         generalize wr.alloc _=W1 at H al⊢
         generalize wr.heap.size=Pb at H⊢
         have d5:=H.c D 5
         have d0:=H.c Pb 0
         go_quiet (fail)
         have J:=H.drewN nq
         clear H al d5 d0
         generalize W1.drewN nq=W2 at J⊢
         rw[ds.out] at J
         have d2:=J.c Pb 2
         have d1:=J.c Pb 1
         have e0:=J.c n.b 0
         obtain ⟨F9,f9,a0⟩: ∃F9,Aside (F9=Dl Pb TP 3*(Sl.cell Pb 0 (.string x.p.nm)*(Sl.cell Pb 1 (.int .i64 x.p.pos)*(Sl.cell Pb 2 (.slice (some ⟨gg,0,none⟩) yn yc)*(Ax D M (.slice (some ⟨g,0,none⟩) ps.length pc) d*(mp B9 M (ns.map CA)*(R*(rw TP 3 (.slice (some ⟨g,0,none⟩) ps.length pc) (B6 ps)*(Rp*(mp B9 w.heap.size kl*(B*F)))))))))))∧
          Sat (rw TB 1 (.slice va T.length vc) (A4 T)*(rw TB 1 (.slice (some ⟨gg,0,none⟩) yn yc) (A4 l)*(Dl n.b TF 3*(Sl.cell n.b 0 (.slice va T.length vc)*(Sl.cell n.b 1 n.sv*(Sl.cell n.b 2 (.bool n.f.sure)*(rw TB 1 n.sv (A4 n.f.safe)*F9))))))) W2.drew:=
          ⟨_,rfl,Sat.drew (J.eq (by unfold Ax;ac_rfl))⟩
         have cq:=PO _ T x.p.pos _ l _ _ Reads.rw W2.drew a0 (by omega) (by omega)
         clear J a0
         go_wp2_with fail
         go_region_with (go_at_call 107;refine cq.mono ?_;rintro e w3 ⟨nv,rfl,X⟩;obtain ⟨na,nc,ef,_,_⟩:=E7 X;obtain ⟨nl,dc⟩: ∃n,(laid T x.p.pos l).length=n:=⟨_,rfl⟩;rw[dc] at ef;subst ef;clear dc;have k0:=X.c n.b 0;have f0:=X.f n.b 0)
         all_goals
          have a3:=X.Et n.b 0 (.slice na nl nc)
          clear cq X e0 d1 d2
          rw[f9.out] at a3
          have m0:=a3.c Pb 0
          obtain ⟨o3,ei,a7⟩:=(a3.take (mp B9 w.heap.size kl)).Ct
          obtain ⟨o4,ej,h3⟩:=Ch (P:=Tryz.prog) JO Tryz.underlying213 a7.obj ei x.p.nm (.bool true)
          have c8:=Sat.Dn ej (a7.Gy o4)
          clear a7 a3 ei ej k0 f0
          go_wp2
          go_roundg (ps.length-(j+1))
          case measure=>have:=A2.out.1;omega
          refine ⟨j+1,Et ψ x.p.nm (.slice na nl nc),Er x.p.nm (.bool true) kl,by go_num,by omega,⟨rfl,by rw[ad.out,a6.out];exact HH.out.2.put cg.out⟩,?_⟩
          rw[ad.out,a6.out,br.out _ _ HT.out,ds.out]
          refine Sat.CR (B:=Dl Pb TP 3*(Sl.cell Pb 0 (.string x.p.nm)*(Sl.cell Pb 1 (.int .i64 x.p.pos)*Sl.cell Pb 2 (.slice (some ⟨gg,0,none⟩) yn yc)))) (c8.eq ?_)
          unfold Bv
          dsimp only
          ac_rfl
     have ay:IE r j=false:=by simpa using am
     have ad:Aside (DJ r 0 (B4 (ps.take (j+1)))=DJ r 0 (B4 (ps.take j))):=(by rw[ak,ay];simp:_=_)
     clear ak am
     by_cases fm:r.length=0
     · have ct:((r.length:Int)==0)=true:=by rw[beq_iff_eq];omega
       clear bv
       go_wp2
       go_roundg (ps.length-(j+1))
       case measure=>have:=A2.out.1;omega
       refine ⟨j+1,ψ,kl,by go_num,by omega,⟨rfl,by rw[ad.out];exact A2.out.2⟩,?_⟩
       rw[ad.out]
       exact Sat.right (I.eq (by rfl))
     have ct:((r.length:Int)==0)=false:=by rw[beq_eq_false_iff_ne];omega
     obtain ⟨z,hz⟩: ∃z,r[j%r.length]?=some z:=⟨r[j%r.length]'(Nat.mod_lt _ (by omega)),by simp⟩
     obtain ⟨zb,zo,e5,dl⟩:=bv.at hz
     cases e5
     obtain ⟨q,hq⟩: ∃q:Nat,j%r.length=q:=⟨_,rfl⟩
     rw[hq] at dl hz
     have de:(j:Int)%(r.length:Int)=(q:Nat):=by omega
     have fp:(j:Int).tmod (r.length:Int)=(q:Nat):=by rw[Int.tmod_eq_emod_of_nonneg (by omega)];exact de
     have fo:q<r.length:=by rw[←hq];exact Nat.mod_lt _ (by omega)
     have el:(q:Int)<(r.length:Int):=by omega
     have dy:bits .and .i64 z 1=0:=by
      rw[Kq]
      unfold IE at ay
      rw[hq,hz] at ay
      have:(z%2==1)=false:=ay
      rw[beq_eq_false_iff_ne] at this
      omega
     clear bv hz hq ay
     go_wp2
     go_roundg (ps.length-(j+1))
     case measure=>have:=A2.out.1;omega
     refine ⟨j+1,ψ,kl,by go_num,by omega,⟨rfl,by rw[ad.out];exact A2.out.2⟩,?_⟩
     rw[ad.out]
     exact Sat.right (I.eq (by rfl))
   obtain ⟨wq,rfl⟩: ∃wq:World,wq=wr:=⟨_,rfl⟩
   have e7: ¬(j:Int)<ps.length:=by omega
   have da:ps.take j=ps:=List.take_of_length_le (by omega)
   rw[da] at Q
   have ck:=A2.out.2
   rw[da] at ck
   obtain ⟨L,a6⟩: ∃L,Aside (DJ r 0 (B4 ps)=L):=⟨_,rfl⟩
   rw[a6.out] at Q ck
   obtain ⟨O,bd⟩: ∃O,Aside (ns.map (Kj L ψ)=O):=⟨_,rfl⟩
   have ea:ns.map CA=O.map CA:=by rw[←bd.out,ZK]
   have cr:(O.map (·.nm)).Nodup:=by
    rw[←bd.out,List.map_map]
    have:(Nf.nm ∘ Kj L ψ)=Nf.nm:=by funext n;rfl
    exact b3.out.1
   have cv: ∀n∈O,n.f.now.length≤1099511627776:=by
    intro n hn
    rw[←bd.out] at hn
    obtain ⟨y,hy,rfl⟩:=List.mem_map.1 hn
    obtain ⟨bk,d9,c4⟩:=cz.out
    refine Jh _ _ _ (b3.out.2 y hy).2 ?_
    intro p af
    refine bk.pc p ?_
    rw[←c4]
    exact I2 r _ 0 p (by rw[a6.out];exact (List.mem_filter.1 af).1)
   rw[bd.out,ea] at Q
   have c5:wq.cell? ⟨D,5,none⟩=some (.map (some M)):=by unfold Ax at Q;exact Q.c D 5
   have gt:D<wq.heap.size:=World.block_lt_of_cell? _ _ c5
   obtain ⟨o1,eh,I⟩:=(Q.take (mp B9 M (O.map CA))).Ct
   obtain ⟨cn,dx,ac⟩:=E6 (P:=Tryz.prog) Tryz.underlying148 I.obj eh
   have H:=I.CH cn
   obtain ⟨G2,cx⟩: ∃G,Aside (Ax D M (.slice pa ps.length pc) d*(mp B9 w.heap.size kl*(B*F))=G):=⟨_,rfl⟩
   have J:Sat (raw M o1*(raw wq.heap.size cn*(A0 O*G2))) (wq.alloc cn):=
    Sat.CR (B:=rw TP 3 (.slice pa ps.length pc) (B6 ps)*AM ps) (H.eq (by rw[←cx.out];ac_rfl))
   have ar:Aside ((O.map (·.nm)).Nodup∧(∀n∈O,n.f.now.length≤1099511627776)∧Hf L kl∧ns.map (Kj L ψ)=O):=⟨cr,cv,ck,bd.out⟩
   clear H I eh Q ck da ea cr cv bd A2
   go_wp2_with fail
   go_loopg [10] O.length (fun k3 t ft=> ∃(φ:ByteArray→Value)(oM ah:Obj)(u:List (ByteArray×Value))(ba:List Nf),Aside (k3=u.length∧Iter B9 M oM ah ((O.filterMap (Kk L (u.map (·.1)) φ)).map CA) u∧u.Perm (ba.map CA)∧(∀n∈ba,n∈O)∧(u.map (·.1)).Nodup)∧
    Sat (raw M oM*(raw wq.heap.size ah*(A0 (O.filterMap (Kk L (u.map (·.1)) φ))*G2))) ft)
   case atStart=>
    refine ⟨fun _=>undef,o1,cn,O.map CA,O,⟨by simp,?_,.refl _,fun _ h=>h,by rw[I4];exact ar.out.1⟩,?_⟩
    · rw[I4,U3];exact dx
    rw[I4,U3];exact J
   obtain ⟨a5,oM,ah,u,ba,A3,an⟩:=hrel
   obtain ⟨b5,ai,af,a4,b9⟩:=A3.out
   clear dx J ac c5
   rcases Ft (P:=Tryz.prog) an ai with ⟨c7,b6⟩|⟨i,k,vv,aa,w2,hi,b6,be,a9,cj⟩
   · subst c7
     have a0:=Sat.Dn ai.Un an
     have X:Sat (Ax D M (.slice pa ps.length pc) d*(mp B9 M ((O.filterMap (Kk L [] a5)).map CA)*(A0 (O.filterMap (Kk L [] a5))*(B*F)))) wr:=
      Sat.CR (B:=raw wq.heap.size ah*mp B9 w.heap.size kl) (a0.eq (by rw[←cx.out];simp only[List.map_nil];ac_rfl))
     unfold Ax at X
     have g6:=X.c D 6
     have f6:=X.f D 6
     have a3:=X.Et D 6 (.slice none 0 0)
     have g4:=a3.c D 4
     have f4:=a3.f D 4
     have a7:=a3.Et D 4 (.bool false)
     have g3:=a7.c D 3
     have f3:=a7.f D 3
     have c8:=a7.Et D 3 (.bool false)
     clear a0 X a3 a7 an ai A3 b5 af a4 b9
     go_wp2
     go_end0
     refine ⟨rfl,ψ,a5,?_⟩
     rw[a6.out]
     have e9:ns.filterMap (Kk L [] a5 ∘ Kj L ψ)=O.filterMap (Kk L [] a5):=by rw[←ar.out.2.2.2,List.filterMap_map]
     rw[e9]
     refine (c8.Bj (e:=TP) (s:=3)).eq ?_
     unfold AS Ax Cp
     simp only[B6,AM,Bd,List.flatMap_nil]
     ac_rfl
   obtain ⟨n,cb,b8,hx,c3⟩:=Gw af hi
   have hn:n∈O:=a4 n (b8.mem_iff.2 (by simp))
   cases hx
   obtain ⟨bh,az,ae,av⟩:=RM (ms:= []) b9 hi
   obtain ⟨l1,l2,Y⟩:=List.append_of_mem hn
   have ag:=I8 (by rw[←Y];exact ar.out.1)
   have ax:Kk L (u.map (·.1)) a5 n=some n:=by unfold Kk;rw[if_pos (Gf.2 av)]
   obtain ⟨c1,cw⟩: ∃c,Aside (l1.filterMap (Kk L (u.map (·.1)) a5)=c):=⟨_,rfl⟩
   obtain ⟨c2,dq⟩: ∃c,Aside (l2.filterMap (Kk L (u.map (·.1)) a5)=c):=⟨_,rfl⟩
   have cp:O.filterMap (Kk L (u.map (·.1)) a5)=c1++n::c2:=by
    rw[Y,List.filterMap_append,List.filterMap_cons,ax,cw.out,dq.out]
   have dz: ∀m∈c1,m.nm≠n.nm:=by
    intro m hm
    rw[←cw.out] at hm
    obtain ⟨y,hy,cl⟩:=List.mem_filterMap.1 hm
    rw[(ZL cl).1];exact ag.1 y hy
   have e6:Ya ((u.eraseIdx i).map (·.1)) n.nm=false:=by
    cases hb:Ya ((u.eraseIdx i).map (·.1)) n.nm with
    |false=>rfl
    | true =>
      rw[Gf] at hb
      obtain ⟨p,hp,e⟩:=List.mem_map.1 hb
      exact absurd e (bh p hp)
   have bt:Aside (∀sv,O.filterMap (Kk L ((u.eraseIdx i).map (·.1)) (Et a5 n.nm sv))=if n.f.sure||E2 L n.nm then c1++ { n with f:=⟨n.f.now,n.f.now,true⟩,sv:=sv } ::c2 else c1++c2):=by
    intro sv
    rw[Y,List.filterMap_append,List.filterMap_cons,←P4 ag.1 ae,←P4 ag.2 ae,cw.out,dq.out]
    have:Kk L ((u.eraseIdx i).map (·.1)) (Et a5 n.nm sv) n=if n.f.sure||E2 L n.nm then some { n with f:=⟨n.f.now,n.f.now,true⟩,sv:=sv } else none:=by
     unfold Kk
     rw[e6]
     simp[Et]
    rw[this]
    cases (n.f.sure||E2 L n.nm)<;>rfl
   rw[cp] at a9 be
   have dc:=ar.out.2.1 n hn
   have bx:(u.eraseIdx i).length<u.length:=by
    have:=(List.getElem?_eq_some_iff.1 hi).1
    rw[List.length_eraseIdx];split<;>omega
   have HL:Aside ((u.eraseIdx i).length<u.length∧gk=u.length):=⟨bx,b5⟩
   have HI:Aside ((u.eraseIdx i).Perm (cb.map CA)∧(∀m∈cb,m∈O)∧((u.eraseIdx i).map (·.1)).Nodup):=
    ⟨c3,fun m hm=>a4 m (b8.mem_iff.2 (by simp[hm])),az⟩
   have bs:Aside (Iter B9 M oM aa ((c1++n::c2).map CA) (u.eraseIdx i)∧(∀p∈u.eraseIdx i,p.1≠n.nm)∧(∀m∈c1,m.nm≠n.nm)):=⟨be,bh,dz⟩
   obtain ⟨Rc,ch⟩: ∃R,Aside (A0 c1*A0 c2=R):=⟨_,rfl⟩
   have V:Sat (Bv n*(Rc*(raw M oM*(raw wq.heap.size aa*G2)))) w2:=a9.eq (by rw[←ch.out,Ba,A0];ac_rfl)
   have e8:Dx n.nm kl=if E2 L n.nm then some (.bool true) else none:=ar.out.2.2.1 n.nm
   obtain ⟨ha,cs,bc⟩: ∃o,Fi B9 o kl∧Sat (raw w.heap.size o*(Bv n*(Rc*(raw M oM*(raw wq.heap.size aa*(Ax D M (.slice pa ps.length pc) d*(B*F))))))) w2:=(V.eq (B:=mp B9 w.heap.size kl*(Bv n*(Rc*(raw M oM*(raw wq.heap.size aa*(Ax D M (.slice pa ps.length pc) d*(B*F))))))) (by rw[←cx.out];ac_rfl)).Ct
   have bg:=D1 (P:=Tryz.prog) JO Tryz.underlying213 ZV bc.obj cs n.nm false
   rw[e8] at bg
   have d5:w2.cell? ⟨D,5,none⟩=some (.map (some M)):=by unfold Ax at bc;exact bc.c D 5
   have gs:D<w2.heap.size:=World.block_lt_of_cell? _ _ d5
   clear cs bc e8 ai A3 bx b5 be hi af b8 c3 a4 an ax Y ag ae bh b9 az av cp dz e6 hn
   cases ao:n.f.sure with
   | true =>
     have bu:Aside ((n.f.sure||E2 L n.nm)=true):=(by rw[ao];rfl:_=_)
     have I:=V
     unfold Bv at I
     have b2:=I.c n.b 2
     have b0:=I.c n.b 0
     obtain ⟨va,vc,hv,dh,di⟩:=E7 (I.take (rw TB 1 n.nv (A4 n.f.now)))
     have q1:=Cy (e:=TB) (s:=1) I
     have W:=Reads.rw _ _ (q1.take (rw TB 1 n.nv (A4 n.f.now)))
     rw[hv] at b0 W
     have a8:=W.src (P:=Tryz.prog)
     have ed:n.b<w2.heap.size:=World.block_lt_of_cell? _ _ b0
     rw[ao] at b2
     clear ao bg
     clear V I W hv a9 d5
     go_wp2_with (at_builtin;refine Aj E rfl (.tmp 127) (.tmp 131) rfl rfl rfl q1 a8 (by unfold maxLen;omega) (by omega) ?_;intro a' c' w3 H aw;simp only[Nat.zero_add,List.nil_append] at H;have k1:=H.c n.b 1;have f1:=H.f n.b 1;have J:=H.Et n.b 1 (.slice a' n.f.now.length c');have k2:=J.c n.b 2;have f2:=J.f n.b 2;have a0:=J.Et n.b 2 (.bool true);clear q1 a8 aw H J)
     go_roundg (u.eraseIdx i).length
     case measure=>have:=HL.out;omega
     have U:=bt.out (.slice a' n.f.now.length c')
     rw[bu.out] at U
     simp only[if_true] at U
     refine ⟨Et a5 n.nm (.slice a' n.f.now.length c'),oM,aa,_,cb,⟨rfl,?_,HI.out⟩,?_⟩
     · rw[U]
       have d6:(c1++ { n with f:=⟨n.f.now,n.f.now,true⟩,sv:= .slice a' n.f.now.length c' } ::c2).map CA=(c1++n::c2).map CA:=by simp[CA]
       rw[d6];exact bs.out.1
     rw[U,Ba,A0]
     refine Sat.CR (B:=rw TB 1 n.sv (A4 n.f.safe)) (a0.eq ?_)
     rw[←ch.out]
     unfold Bv
     dsimp only
     ac_rfl
   | false =>
     cases bf:E2 L n.nm with
     | true =>
       have bu:Aside ((n.f.sure||E2 L n.nm)=true):=(by rw[ao,bf];rfl:_=_)
       rw[bf] at bg
       simp only[if_true,Option.getD_some,Bool.false_eq_true,if_false] at bg
       have I:=V
       unfold Bv at I
       have b2:=I.c n.b 2
       have b0:=I.c n.b 0
       obtain ⟨va,vc,hv,dh,di⟩:=E7 (I.take (rw TB 1 n.nv (A4 n.f.now)))
       have q1:=Cy (e:=TB) (s:=1) I
       have W:=Reads.rw _ _ (q1.take (rw TB 1 n.nv (A4 n.f.now)))
       rw[hv] at b0 W
       have a8:=W.src (P:=Tryz.prog)
       have ed:n.b<w2.heap.size:=World.block_lt_of_cell? _ _ b0
       rw[ao] at b2
       clear ao bf
       clear V I W hv a9 d5
       go_wp2_with (at_builtin;refine Aj E rfl (.tmp 127) (.tmp 131) rfl rfl rfl q1 a8 (by unfold maxLen;omega) (by omega) ?_;intro a' c' w3 H aw;simp only[Nat.zero_add,List.nil_append] at H;have k1:=H.c n.b 1;have f1:=H.f n.b 1;have J:=H.Et n.b 1 (.slice a' n.f.now.length c');have k2:=J.c n.b 2;have f2:=J.f n.b 2;have a0:=J.Et n.b 2 (.bool true);clear q1 a8 aw H J)
       go_roundg (u.eraseIdx i).length
       case measure=>have:=HL.out;omega
       have U:=bt.out (.slice a' n.f.now.length c')
       rw[bu.out] at U
       simp only[if_true] at U
       refine ⟨Et a5 n.nm (.slice a' n.f.now.length c'),oM,aa,_,cb,⟨rfl,?_,HI.out⟩,?_⟩
       · rw[U]
         have d6:(c1++ { n with f:=⟨n.f.now,n.f.now,true⟩,sv:= .slice a' n.f.now.length c' } ::c2).map CA=(c1++n::c2).map CA:=by simp[CA]
         rw[d6];exact bs.out.1
       rw[U,Ba,A0]
       refine Sat.CR (B:=rw TB 1 n.sv (A4 n.f.safe)) (a0.eq ?_)
       rw[←ch.out]
       unfold Bv
       dsimp only
       ac_rfl
     | false =>
       have bu:Aside ((n.f.sure||E2 L n.nm)=false):=(by rw[ao,bf];rfl:_=_)
       rw[bf] at bg
       simp only[Bool.false_eq_true,if_false,Option.getD_none] at bg
       have I:=V
       unfold Bv at I
       have b2:=I.c n.b 2
       rw[ao] at b2
       obtain ⟨dm,d7,g2⟩:=Mq (P:=Tryz.prog) JO Tryz.underlying148 (V.take (raw M oM)).obj bs.out.1 n.nm bs.out.2.1
       rw[QZ bs.out.2.2] at d7
       have fb:Aside (Iter B9 M dm aa ((c1++c2).map CA) (u.eraseIdx i)):=d7
       have a0:=(V.take (raw M oM)).Gy dm
       clear V I a9 d7 ao bf
       go_wp2
       go_roundg (u.eraseIdx i).length
       case measure=>have:=HL.out;omega
       have U:=bt.out undef
       rw[bu.out] at U
       simp only[Bool.false_eq_true,if_false] at U
       refine ⟨Et a5 n.nm undef,dm,aa,_,cb,⟨rfl,?_,HI.out⟩,?_⟩
       · rw[U];exact fb.out
       rw[U,Ba]
       refine Sat.CR (B:=Bv n) (a0.eq ?_)
       rw[←ch.out]
       ac_rfl
 obtain ⟨n,O,b8,hx,c3⟩:=Gw af hi
 have hn:n∈ns:=a4 n (b8.mem_iff.2 (by simp))
 cases hx
 obtain ⟨bh,az,ae,av⟩:=RM (ms:= []) b9 hi
 obtain ⟨l1,l2,Y⟩:=List.append_of_mem hn
 have ag:=I8 (by rw[←Y];exact b3.out.1)
 have ax:RZ (u.map (·.1)) φ n=n:=by unfold RZ;rw[if_pos (Gf.2 av)]
 obtain ⟨R,HR⟩: ∃R,Aside (A0 (l1.map (RZ (u.map (·.1)) φ))*A0 (l2.map (RZ (u.map (·.1)) φ))=R):=⟨_,rfl⟩
 have bw:A0 (ns.map (RZ (u.map (·.1)) φ))=Bv n*R:=by
  rw[←HR.out,Y,List.map_append,List.map_cons,Ba,A0,ax];ac_rfl
 have V:Sat (Bv n*(R*(raw M o*(raw (w.heap.size+1) aa*G)))) w2:=a9.eq (by rw[bw];ac_rfl)
 unfold Bv at V
 have c1:=V.c n.b 1
 obtain ⟨va,vc,hv,dh,di⟩:=E7 (V.take (rw TB 1 n.sv (A4 n.f.safe)))
 have h2:=(b3.out.2 n hn).2
 have bx:(u.eraseIdx i).length<u.length:=by
  have:=(List.getElem?_eq_some_iff.1 hi).1
  rw[List.length_eraseIdx];split<;>omega
 have HL:Aside ((u.eraseIdx i).length<u.length∧gk=u.length):=⟨bx,b5⟩
 have HI:Aside (Iter B9 M o aa (ns.map CA) (u.eraseIdx i)∧(u.eraseIdx i).Perm (O.map CA)∧(∀m∈O,m∈ns)∧((u.eraseIdx i).map (·.1)).Nodup):=
  ⟨be,c3,fun m hm=>a4 m (b8.mem_iff.2 (by simp[hm])),az⟩
 have br:Aside (∀nv,A0 (ns.map (RZ ((u.eraseIdx i).map (·.1)) (Et φ n.nm nv)))=Bv { n with f:=⟨n.f.safe,n.f.safe,n.f.sure⟩,nv:=nv } *R):=by
  intro nv
  rw[←HR.out,Y,List.map_append,List.map_cons,Ba,A0,←P2 ag.1 ae,←P2 ag.2 ae]
  have:RZ ((u.eraseIdx i).map (·.1)) (Et φ n.nm nv) n= { n with f:=⟨n.f.safe,n.f.safe,n.f.sure⟩,nv:=nv } :=by
   unfold RZ
   rw[if_neg (by rw[Gf];intro h;obtain ⟨p,hp,e⟩:=List.mem_map.1 h;exact bh p hp e)]
   simp[Et]
  rw[this];ac_rfl
 have q1:=Cy (e:=TB) (s:=1) V
 have W:=Reads.rw _ _ (q1.take (rw TB 1 n.sv (A4 n.f.safe)))
 rw[hv] at c1 W
 have a8:=W.src (P:=Tryz.prog)
 have ed:n.b<w2.heap.size:=World.block_lt_of_cell? _ _ c1
 clear ai A bx b5 be hi af b8 c3 a4 an a9 V bw ax Y ag ae bh b9 az av W hv
 go_wp2_with (at_builtin;refine Aj E rfl (.tmp 25) (.tmp 29) rfl rfl rfl q1 a8 (by unfold maxLen;omega) (by omega) ?_;intro a' c' w3 I aw;simp only[Nat.zero_add,List.nil_append] at I;have k0:=I.c n.b 0;have f0:=I.f n.b 0;have H:=I.Et n.b 0 (.slice a' n.f.safe.length c');clear q1 a8 aw I)
 go_roundg (u.eraseIdx i).length
 case measure=>have:=HL.out;omega
 refine ⟨Et φ n.nm (.slice a' n.f.safe.length c'),aa,_,O,⟨rfl,HI.out⟩,?_⟩
 rw[br.out]
 refine Sat.CR (B:=rw TB 1 n.nv (A4 n.f.now)) (H.eq ?_)
 unfold Bv
 dsimp only
 ac_rfl
theorem UG(D:Nat)(d:Dk)(m:Nat)(a:List Int)(v:Value)(B F:Ac)(w:World)(l:Wa B v a)(hs:Sat (Bh D d*(B*F)) w)(b:a.length≤9223372036854775807)(ok:Ok m d)(c:m≤Iq):
 Calls Tryz.prog 43 #[.pointer (some ⟨D,0,none⟩),v] w fun e j=>e= .returned (.tuple #[])∧Sat (Bh D (d.J3 a)*(B*F)) j:=by
 obtain ⟨M,ns,pv,ps,g,i,k⟩:=Sat.C5 hs
 refine (Wo D M ns pv ps d m a v B F w l k g i b ok c).mono ?_
 rintro e j ⟨o,n,rfl,f⟩
 refine ⟨rfl,Sat.Ce (M:=M) (ns:=(ns.map (Kj (DJ a 0 (B4 ps)) o)).filterMap (Kk (DJ a 0 (B4 ps)) [] n)) (pv:= .slice none 0 0) (ps:= []) ?_ rfl f⟩
 rw[Q1,g,i];rfl
theorem Xe(room:Int)(F:Ac)(w:World)(hs:Sat F w)(l:0≤room)(m:room≤1099511627776):
 Calls Tryz.prog 62 #[.int .i64 room] w fun e i=> ∃D,e= .returned (.tuple #[.pointer (some ⟨D,0,none⟩),.int .i64 0])∧Sat (Bh D (Dk.new room)*F) i:=by
 have g:= @run_makeMap Tryz.prog
 have j:decide (room<0)=false:=by simp;omega
 have k: ¬1099511627776<room:=by omega
 have c:=hs.CH (.map #[] 0)
 have a:=c.alloc #[.int .i64 room,.int .i64 0,.int .i64 0,.bool false,.bool false,.map (some w.heap.size),.slice none 0 0] TD
 have e:(w.alloc (.map #[] 0)).heap.size=w.heap.size+1:=by simp
 rw[e] at a
 have d:=Sat.Dn (kf:=B9) (ms:= []) (b:=w.heap.size) (o:= .map #[] 0) ⟨#[],0,rfl,rfl,by simp,by simp⟩ (a.take (raw w.heap.size _))
 have f:=d.Bj (e:=TP) (s:=3)
 clear c a d e hs
 go_enter Tryz.func62,Tryz.ntmps62
 go_wp2
 go_ret2
 refine ⟨w.heap.size+1,rfl,?_⟩
 refine Sat.Ce (M:=w.heap.size) (ns:= []) (pv:= .slice none 0 0) (ps:= []) rfl rfl (f.eq ?_)
 unfold AS Ax Cp Dk.new
 simp only[block,Sl.cells,A0,AM,B6,List.map_nil,List.flatMap_nil,Am,Bd,List.length_cons,List.length_nil,Nat.zero_add,Nat.reduceAdd]
 ac_rfl
theorem Ym(D:Nat)(d:Dk)(n:Int)(F:Ac)(w:World)(hs:Sat (Bh D d*F) w):
 Calls Tryz.prog 39 #[.pointer (some ⟨D,0,none⟩),.int .i64 n] w fun e l=>e= .returned (.int .i64 (d.arm n).1)∧Sat (Bh D (d.arm n).2*F) l:=by
 by_cases h:n<0
 ·have a:d.arm n=(1,d):=by unfold Dk.arm;rw[if_pos h]
  have k:decide (n<0)=true:=by simpa using h
  rw[a]
  clear a
  go_enter Tryz.func39,Tryz.ntmps39
  go_wp2
  go_ret
  exact ⟨rfl,hs⟩
 have a:d.arm n=(0, { d with D5:=true,left:=n }):=by unfold Dk.arm;rw[if_neg h]
 have k:decide (n<0)=false:=by simpa using h
 rw[a]
 obtain ⟨M,ns,pv,ps,i,j,b⟩:=Sat.C5 hs
 have g:Aside (BE ns=d.files∧B4 ps=d.AO):=⟨i,j⟩
 unfold AS Ax at b
 have m:=b.c D 3
 have p:=b.f D 3
 have s1:=b.Et D 3 (.bool true)
 have c2:=s1.c D 2
 have o:=s1.f D 2
 have s2:=s1.Et D 2 (.int .i64 n)
 clear hs b s1 i j a
 go_enter Tryz.func39,Tryz.ntmps39
 go_wp2
 go_ret
 refine ⟨rfl,Sat.Ce (M:=M) (ns:=ns) (pv:=pv) (ps:=ps) g.out.1 g.out.2 (s2.eq ?_)⟩
 unfold AS Ax
 ac_rfl
