/- censusSound holds for every input. No condition. (part 2) -/
import Derived.Test.YtfhbmblbidcmmaaGreatWa1
import Derived.Test.YtfhbmblbidcmmaaGreatProg
import Derived.WalkLawsBesides
import Derived.BigQuiet
set_option linter.all false
set_option maxHeartbeats 1000000
namespace Go.Proofs.YtfhbmblbidcmmaaGreat
open Go.RowKit Go.Sl Go.PS
abbrev TL:TypeId:=269
abbrev TI:TypeId:=266
abbrev TM:TypeId:=267
theorem Jz:MV Tryz.prog 3 A9:=YM Tryz.underlying3
theorem gZ(w:World):(zeroValue 264).run Tryz.prog w= .ok (.pointer none) w:=by kernel_rfl
theorem OU{M:Nat}{l1:List Nd}{n:Nd}{l2:List Nd}{F:Ab}{w:World}(hs:Sat (J9 M (l1++n::l2)*F) w)(a:((l1++n::l2).map (·.key)).Nodup):
 (Instr.lookup TM (.map (some M)) (.int .i64 n.key) false).run Tryz.prog w= .ok (.pointer (some ⟨n.b,0,none⟩)) w:=by
 obtain ⟨ms,o,hp,c,hs⟩:=Sat.Gm hs
 have:=DJ Jz Tryz.underlying267 gZ hs.obj c n.key false
 rw[MA hp (KI a),Wq rfl a] at this
 simpa using this
theorem YY{M:Nat}{ns:List Nd}{k:Int}{F:Ab}{w:World}(hs:Sat (J9 M ns*F) w)(a:(ns.map (·.key)).Nodup)(b: ∀n∈ns,n.key≠k):
 (Instr.lookup TM (.map (some M)) (.int .i64 k) false).run Tryz.prog w= .ok (.pointer none) w:=by
 obtain ⟨ms,o,hp,c,hs⟩:=Sat.Gm hs
 have:=DJ Jz Tryz.underlying267 gZ hs.obj c k false
 rw[MA hp (KI a),QT b] at this
 simpa using this
theorem Ga(L M:Nat)(cap:Int)(l1:List Nd)(n:Nd)(l2:List Nd)(F:Ab)(w:World)(hs:Sat (CP TL TI L M cap (l1++n::l2)*F) w)(a:((l1++n::l2).map (·.key)).Nodup):
 Calls Tryz.prog 170 #[.pointer (some ⟨L,0,none⟩),.int .i64 n.key] w fun e d=>e= .returned (.pointer (some ⟨n.b,0,none⟩))∧w=d:=by
 unfold CP at hs
 have f:=hs.c L 6
 have hl:=OU (hs.take (J9 M _)) a
 clear hs a
 go_enter Tryz.func170,Tryz.ntmps170
 go_wp2
 go_ret
 exact ⟨rfl,rfl⟩
theorem JV(L M:Nat)(cap:Int)(ns:List Nd)(k:Int)(F:Ab)(w:World)(hs:Sat (CP TL TI L M cap ns*F) w)(a:(ns.map (·.key)).Nodup)(b: ∀n∈ns,n.key≠k):
 Calls Tryz.prog 170 #[.pointer (some ⟨L,0,none⟩),.int .i64 k] w fun e d=>e= .returned (.pointer none)∧w=d:=by
 unfold CP at hs
 have f:=hs.c L 6
 have hl:=YY (hs.take (J9 M _)) a b
 clear hs a
 go_enter Tryz.func170,Tryz.ntmps170
 go_wp2
 go_ret
 exact ⟨rfl,rfl⟩
def hasB(ns:List Nd)(k:Int):Bool:=ns.any fun n=>n.key==k
theorem Oc(L M:Nat)(cap:Int)(ns:List Nd)(k:Int)(F:Ab)(w:World)(hs:Sat (CP TL TI L M cap ns*F) w)(b:(ns.map (·.key)).Nodup):
 Calls Tryz.prog 254 #[.pointer (some ⟨L,0,none⟩),.int .i64 k] w fun e a=>e= .returned (.bool (hasB ns k))∧w=a:=by
 rcases Iw ns k with ⟨l1,n,l2,rfl,rfl⟩|c
 ·have e:hasB (l1++n::l2) n.key=true:=by simp[hasB]
  rw[e]
  go_enter Tryz.func254,Tryz.ntmps254
  go_wp2_with (go_at_call 170;refine (Ga _ _ _ _ _ _ _ _ hs b).mono ?_;rintro e a ⟨rfl,rfl⟩)
  go_ret
  exact ⟨rfl,rfl⟩
 have e:hasB ns k=false:=by simp only[hasB,List.any_eq_false];intro n d;simpa using c n d
 rw[e]
 clear e
 go_enter Tryz.func254,Tryz.ntmps254
 go_wp2_with (go_at_call 170;refine (JV _ _ _ _ _ _ _ hs b c).mono ?_;rintro e a ⟨rfl,rfl⟩)
 go_ret
 exact ⟨rfl,rfl⟩
theorem U'(x p n:Nat×Nat)(w:World)(F:Ab)
 (hs:Sat (F6 p x*F6 x n*F) w):
 Calls Tryz.prog 227 #[.pointer (some ⟨x.1,x.2,none⟩)] w fun e l=>e= .returned (.tuple #[])∧
  Sat (F6 p n*(Sl.cell x.1 (x.2+3) (pt p)*Sl.cell x.1 (x.2+4) (pt n))*F) l:=by
 obtain ⟨g,i⟩:=x
 obtain ⟨b,op⟩:=p
 obtain ⟨a,d⟩:=n
 simp only[F6,pt] at hs⊢
 have h1:=hs.c g (i+3)
 have s:=hs.c g (i+4)
 have t:=hs.c b (op+4)
 have u:=hs.c a (d+3)
 have m:=hs.f b (op+4)
 have o:=hs.f a (d+3)
 have s1:=hs.Kn b (op+4) (.pointer (some ⟨a,d,none⟩))
 have s2:=s1.Kn a (d+3) (.pointer (some ⟨b,op,none⟩))
 have j:=hs.Kn a (d+3) (.pointer (some ⟨b,op,none⟩))
 have k:=j.Kn b (op+4) (.pointer (some ⟨a,d,none⟩))
 have q:=s1.c a (d+3)
 have r:=j.c b (op+4)
 go_enter Tryz.func227,Tryz.ntmps227
 go_wp2
 go_region
 all_goals (go_end0;exact ⟨rfl,(Sat.drew (by first|exact s2.eq (by ac_rfl)|exact k.eq (by ac_rfl)))⟩)
theorem RX(L a:Nat)(p:Nat×Nat)(v1 v2:Value)(w:World)(F:Ab)
 (hs:Sat (F6 p (L,1)*(Sl.cell a 3 v1*Sl.cell a 4 v2)*F) w):
 Calls Tryz.prog 228 #[.pointer (some ⟨L,0,none⟩),.pointer (some ⟨a,0,none⟩)] w fun e k=>e= .returned (.tuple #[])∧
  Sat (F6 p (a,0)*F6 (a,0) (L,1)*F) k:=by
 obtain ⟨b,op⟩:=p
 simp only[F6,pt,Nat.zero_add,Nat.reduceAdd] at hs⊢
 have h1:=hs.c L 4
 have y:=hs.c a 3
 have z:=hs.c a 4
 have t:=hs.f a 3
 have u:=hs.f a 4
 have s1:=hs.Kn a 3 (.pointer (some ⟨b,op,none⟩))
 have s2:=s1.Kn a 4 (.pointer (some ⟨L,1,none⟩))
 have g:=hs.Kn a 4 (.pointer (some ⟨L,1,none⟩))
 have d:=g.Kn a 3 (.pointer (some ⟨b,op,none⟩))
 have v:=s1.c a 4
 have x:=g.c a 3
 have s3:=s2.Kn b (op+4) (.pointer (some ⟨a,0,none⟩))
 have s4:=s3.Kn L 4 (.pointer (some ⟨a,0,none⟩))
 have i:=d.Kn b (op+4) (.pointer (some ⟨a,0,none⟩))
 have j:=i.Kn L 4 (.pointer (some ⟨a,0,none⟩))
 have l:=s2.c a 3
 have m:=s2.c b (op+4)
 have n:=hs.f b (op+4)
 have o:=s3.c L 4
 have q:=hs.f L 4
 have r:=d.c a 3
 have b2:=d.c b (op+4)
 have s:=i.c L 4
 go_enter Tryz.func228,Tryz.ntmps228
 go_wp2
 go_region
 all_goals (go_wp2;go_end0;exact ⟨rfl,(Sat.drew (by first|exact s4.eq (by ac_rfl)|exact j.eq (by ac_rfl)))⟩)
theorem KK(L M:Nat)(cap:Int)(l1:List Nd)(n:Nd)(l2:List Nd): ∃R:Ab,
 (CP TL TI L M cap (l1++n::l2)=F6 (before L l1) (n.b,0)*F6 (n.b,0) (behind L l2)*(core TL L M cap*(J9 M (l1++n::l2)*(R*(items TI l1*(item TI n*items TI l2))))))∧
 (chain (ring L (l1++l2))=F6 (before L l1) (behind L l2)*R):=by
 obtain ⟨R,h1,a⟩:=bP L l1 n l2
 refine ⟨R,?_,a⟩
 unfold CP
 rw[h1,DA,items]
 ac_rfl
theorem Rr(L M:Nat)(cap:Int)(l1:List Nd)(n:Nd)(l2:List Nd)(F:Ab)(w:World)(hs:Sat (CP TL TI L M cap (l1++n::l2)*F) w)(m:((l1++n::l2).map (·.key)).Nodup):
 Calls Tryz.prog 191 #[.pointer (some ⟨L,0,none⟩),.int .i64 n.key] w fun e t=>e= .returned (.tuple #[])∧Sat (CP TL TI L M cap (l1++l2)*F) t:=by
 obtain ⟨R,i,l⟩:=KK L M cap l1 n l2
 have d:Sat (core TL L M cap*(J9 M (l1++n::l2)*(chain (ring L (l1++n::l2))*items TI (l1++n::l2)))*F) w:=hs
 have u:=d.c L 6
 have hl:=OU (d.take (J9 M _)) m
 rw[i,Az] at hs
 clear d i
 go_enter Tryz.func191,Tryz.ntmps191
 go_wp2_with fail
 refine (U' (n.b,0) (before L l1) (behind L l2) _ _ hs).mono ?_
 rintro e v ⟨rfl,f⟩
 have s:=f.c L 6
 obtain ⟨ms,o,hp,r,g⟩:=Sat.Gm (f.take (J9 M (l1++n::l2)))
 obtain ⟨o',j,q⟩:=GY Jz Tryz.underlying267 g.obj r n.key
 have k:=g.GZ o'
 have a:=Ze hp (KI m) n.key
 rw[Wp rfl m] at a
 have p:=(Sat.JA a j k)
 clear k g f hs r j hp a
 go_wp2
 go_end0
 refine ⟨rfl,?_⟩
 refine Sat.Dx (B:=item TI n*(Sl.cell n.b 3 (pt (before L l1))*Sl.cell n.b 4 (pt (behind L l2)))) (p.eq ?_)
 unfold CP
 rw[l,DA]
 simp only[Nat.zero_add]
 ac_rfl
def Jj(ns:List Nd):Prop:=(ns.map (·.key)).Nodup
def Qg(ns:List Nd)(k:Int):List Nd:=ns.filter fun n=>n.key !=k
def Xn(ns:List Nd)(k:Int):List Nd:=Qg ns k++ns.filter fun n=>n.key==k
def kA(f:Nd→Nd)(ns:List Nd)(k:Int):List Nd:=ns.map fun n=>if n.key=k then f n else n
theorem Oe{l1:List Nd}{n:Nd}{l2:List Nd}(h:Jj (l1++n::l2)):(∀m∈l1,m.key≠n.key)∧ ∀m∈l2,m.key≠n.key:=by simp_all[Jj,List.map_append,List.map_cons,List.nodup_append,List.nodup_cons,List.mem_cons,List.mem_map]
theorem Mv{l:List Nd}{k:Int}(h: ∀m∈l,m.key≠k):(l.filter fun n=>n.key !=k)=l:=List.filter_eq_self.2 fun m hm=>by simpa using h m hm
theorem filter_eq{l:List Nd}{k:Int}(h: ∀m∈l,m.key≠k):(l.filter fun n=>n.key==k)= []:=List.filter_eq_nil_iff.2 fun m hm=>by simpa using h m hm
theorem ID{l1:List Nd}{n:Nd}{l2:List Nd}(h:Jj (l1++n::l2)):Qg (l1++n::l2) n.key=l1++l2:=by
 obtain ⟨a,b⟩:=Oe h
 simp[Qg,List.filter_append,Mv a,Mv b]
theorem Xo{l1:List Nd}{n:Nd}{l2:List Nd}(h:Jj (l1++n::l2)):Xn (l1++n::l2) n.key=l1++l2++ [n]:=by
 obtain ⟨a,b⟩:=Oe h
 rw[Xn,ID h]
 simp[List.filter_append,filter_eq a,filter_eq b]
theorem Yu{f:Nd→Nd}{l1:List Nd}{n:Nd}{l2:List Nd}(h:Jj (l1++n::l2)):kA f (l1++n::l2) n.key=l1++f n::l2:=by
 obtain ⟨a,b⟩:=Oe h
 have e: ∀l:List Nd,(∀m∈l,m.key≠n.key)→(l.map fun m=>if m.key=n.key then f m else m)=l:=by
  intro l hl
  exact (List.map_congr_left (fun m hm=>if_neg (hl m hm))).trans (List.map_id' l)
 simp_all[kA,List.map_append]
theorem Zp{ns:List Nd}{k:Int}(h: ∀m∈ns,m.key≠k):Qg ns k=ns:=Mv h
theorem ZF{ns:List Nd}{k:Int}(h: ∀m∈ns,m.key≠k):Xn ns k=ns:=by rw[Xn,Zp h,filter_eq h,List.append_nil]
theorem I'{f:Nd→Nd}{ns:List Nd}{k:Int}(h: ∀m∈ns,m.key≠k):kA f ns k=ns:=
 (List.map_congr_left (fun m hm=>if_neg (h m hm))).trans (List.map_id' ns)
theorem OB{l1:List Nd}{n:Nd}{l2:List Nd} :hasB (l1++n::l2) n.key=true:=by simp[hasB]
theorem QC{ns:List Nd}{k:Int}(h: ∀m∈ns,m.key≠k):hasB ns k=false:=by simp_all[hasB,List.any_eq_false]
theorem o6{ns:List Nd}(h:Jj ns)(k:Int):Jj (Qg ns k):=by grind [Jj,Qg]
theorem fZ(L M:Nat)(cap:Int)(ns:List Nd)(k:Int)(F:Ab)(w:World)(hs:Sat (CP TL TI L M cap ns*F) w)(l:Jj ns):
 Calls Tryz.prog 180 #[.pointer (some ⟨L,0,none⟩),.int .i64 k] w fun e p=>e= .returned (.bool (hasB ns k))∧Sat (CP TL TI L M cap (Xn ns k)*F) p:=by
 rcases Iw ns k with ⟨l1,n,l2,rfl,rfl⟩|m
 ·rw[OB,Xo l]
  obtain ⟨R,f,g⟩:=KK L M cap l1 n l2
  obtain ⟨R2,i,j⟩:=ML L (l1++l2)
  have a:=hs
  rw[f,Az] at a
  go_enter Tryz.func180,Tryz.ntmps180
  go_wp2_with (go_at_call 170;refine (Ga _ _ _ _ _ _ _ _ hs l).mono ?_;rintro e p ⟨rfl,rfl⟩)
  refine (U' (n.b,0) (before L l1) (behind L l2) _ _ a).mono ?_
  rintro e r ⟨rfl,c⟩
  have d:Sat (F6 (before L (l1++l2)) (L,1)*(Sl.cell n.b 3 (pt (before L l1))*Sl.cell n.b 4 (pt (behind L l2)))*(R2*(core TL L M cap*(J9 M (l1++n::l2)*(items TI l1*(item TI n*items TI l2))*F)))) r:=by
   refine c.eq ?_
   have q:=g.symm.trans i
   simp only[Nat.zero_add]
   calc _=(F6 (before L l1) (behind L l2)*R)*((Sl.cell n.b 3 (pt (before L l1))*Sl.cell n.b 4 (pt (behind L l2)))*(core TL L M cap*(J9 M (l1++n::l2)*(items TI l1*(item TI n*items TI l2))*F))):=by ac_rfl
    _=_:=by rw[q];ac_rfl
  clear a c hs
  go_wp2_with fail
  refine (RX L n.b (before L (l1++l2)) _ _ _ _ d).mono ?_
  rintro e s ⟨rfl,o⟩
  clear d
  go_wp2
  go_ret
  refine ⟨rfl,o.eq ?_⟩
  have hp:(l1++n::l2).Perm (l1++l2++ [n]):=by
   rw[List.append_assoc];exact List.Perm.append_left l1 (List.perm_append_singleton n l2).symm
  unfold CP
  rw[j,aX hp,←We hp,DA,items]
  ac_rfl
 rw[QC m,ZF m]
 go_enter Tryz.func180,Tryz.ntmps180
 go_wp2_with (go_at_call 170;refine (JV _ _ _ _ _ _ _ hs l m).mono ?_;rintro e p ⟨rfl,rfl⟩)
 go_ret
 exact ⟨rfl,hs⟩
theorem OX(L M:Nat)(cap:Int)(l1:List Nd)(n:Nd)(l2:List Nd)(F:Ab):
 CP TL TI L M cap (l1++n::l2)*F=item TI n*(core TL L M cap*(J9 M (l1++n::l2)*(chain (ring L (l1++n::l2))*(items TI l1*items TI l2)))*F):=by
 unfold CP
 rw[DA,items]
 ac_rfl
theorem Ud(L M:Nat)(cap:Int)(l1:List Nd)(n n':Nd)(l2:List Nd)(F:Ab)(hb:n'.b=n.b)(a:n'.key=n.key):
 item TI n'*(core TL L M cap*(J9 M (l1++n::l2)*(chain (ring L (l1++n::l2))*(items TI l1*items TI l2)))*F)=CP TL TI L M cap (l1++n'::l2)*F:=by
 rw[OX]
 have c:J9 M (l1++n::l2)=J9 M (l1++n'::l2):=by
  have:(l1++n::l2).map kv=(l1++n'::l2).map kv:=by simp[kv,hb,a]
  unfold J9;rw[this]
 have d:ring L (l1++n::l2)=ring L (l1++n'::l2):=by simp[ring,hb]
 simp_all
theorem r8(L M:Nat)(cap:Int)(ns:List Nd)(k:Int)(d:Bool)(F:Ab)(w:World)(hs:Sat (CP TL TI L M cap ns*F) w)(g:Jj ns):
 Calls Tryz.prog 148 #[.pointer (some ⟨L,0,none⟩),.int .i64 k,.bool d] w fun e j=>e= .returned (.bool (hasB ns k))∧Sat (CP TL TI L M cap (kA (fun n=> { n with J1:=d }) ns k)*F) j:=by
 rcases Iw ns k with ⟨l1,n,l2,rfl,rfl⟩|i
 ·rw[OB,Yu g]
  have a:=hs
  rw[OX] at a
  unfold item at a
  have c1:=a.c n.b 2
  have l:=a.f n.b 2
  have s1:=a.Kn n.b 2 (.bool d)
  have s2:Sat (CP TL TI L M cap (l1++ { n with J1:=d } ::l2)*F) (w.setCell ⟨n.b,2,none⟩ (.bool d)):=by
   refine s1.eq ?_
   rw[←Ud L M cap l1 n { n with J1:=d } l2 F rfl rfl]
   rfl
  clear a s1
  go_enter Tryz.func148,Tryz.ntmps148
  go_wp2_with (go_at_call 170;refine (Ga _ _ _ _ _ _ _ _ hs g).mono ?_;rintro e j ⟨rfl,rfl⟩)
  go_ret
  exact ⟨rfl,s2⟩
 rw[QC i,I' i]
 go_enter Tryz.func148,Tryz.ntmps148
 go_wp2_with (go_at_call 170;refine (JV _ _ _ _ _ _ _ hs g i).mono ?_;rintro e j ⟨rfl,rfl⟩)
 go_ret
 exact ⟨rfl,hs⟩
theorem i6(L M:Nat)(cap:Int)(ns:List Nd)(k:Int)(F:Ab)(w:World)(hs:Sat (CP TL TI L M cap ns*F) w)(g:Jj ns)(hb: ∀n∈ns,0≤n.pins):
 Calls Tryz.prog 164 #[.pointer (some ⟨L,0,none⟩),.int .i64 k] w fun e o=>e= .returned (.bool (ns.any fun n=>n.key==k&&n.pins==0))∧
  Sat (CP TL TI L M cap (if (ns.any fun n=>n.key==k&&n.pins==0) then Qg ns k else ns)*F) o:=by
 rcases Iw ns k with ⟨l1,n,l2,rfl,rfl⟩|r
 · have s:=hb n (by simp)
   obtain ⟨i,j⟩:=Oe g
   have a:((l1++n::l2).any fun m=>m.key==n.key&&m.pins==0)=(n.pins==0):=by
    have e: ∀l:List Nd,(∀m∈l,m.key≠n.key)→(l.any fun m=>m.key==n.key&&m.pins==0)=false:=by
     intro l hl
     simp only[List.any_eq_false]
     intro m hm
     have:=hl m hm
     simp[this]
    simp[List.any_append,e _ i,e _ j]
   rw[a]
   have d:=hs
   rw[OX] at d
   unfold item at d
   have c1:=d.c n.b 1
   clear a i j d hb
   by_cases hp:n.pins=0
   · have p: ¬(0<n.pins):=by omega
     have f:(n.pins==0)=true:=by simpa using hp
     rw[f,if_pos rfl,ID g]
     clear hp
     go_enter Tryz.func164,Tryz.ntmps164
     go_wp2_with (first|(go_at_call 170;refine (Ga _ _ _ _ _ _ _ _ hs g).mono ?_;rintro e o ⟨rfl,rfl⟩)|(go_at_call 191;refine (Rr _ _ _ _ _ _ _ _ hs g).mono ?_;rintro e t ⟨rfl,q⟩))
     go_ret
     exact ⟨rfl,q⟩
   have p:0<n.pins:=by omega
   have f:(n.pins==0)=false:=by simpa using hp
   rw[f,if_neg (by simp)]
   clear hp
   go_enter Tryz.func164,Tryz.ntmps164
   go_wp2_with (go_at_call 170;refine (Ga _ _ _ _ _ _ _ _ hs g).mono ?_;rintro e o ⟨rfl,rfl⟩)
   go_ret
   exact ⟨rfl,hs⟩
 have a:(ns.any fun m=>m.key==k&&m.pins==0)=false:=by
  simp only[List.any_eq_false]
  intro m hm
  have:=r m hm
  simp[this]
 rw[a,if_neg (by simp)]
 clear hb a
 go_enter Tryz.func164,Tryz.ntmps164
 go_wp2_with (go_at_call 170;refine (JV _ _ _ _ _ _ _ hs g r).mono ?_;rintro e o ⟨rfl,rfl⟩)
 go_ret
 exact ⟨rfl,hs⟩
def NR(ns:List Nd):Option Nd:=ns.find? fun n=>n.pins==0
def Zn(ns:List Nd):Int:=((NR ns).map (·.key)).getD 0
def Su(ns:List Nd):Bool:=(NR ns).isSome
theorem bV:(Tryz.prog.info? 266).map (·.size)=some (4+1):=by kernel_rfl
theorem Za{L M:Nat}{cap:Int}{l1:List Nd}{n:Nd}{l2:List Nd}{F:Ab}{w:World}(hs:Sat (CP TL TI L M cap (l1++n::l2)*F) w):
 w.cell? ⟨n.b,0,none⟩=some (.int .i64 n.key)∧w.cell? ⟨n.b,1,none⟩=some (.int .i64 n.pins)∧w.cell? ⟨n.b,4,none⟩=some (pt (behind L l2))∧
 (binOp .neq 264 (.pointer (some ⟨n.b,0,none⟩)) (.pointer (some ⟨L,1,none⟩))).run Tryz.prog w= .ok (.bool true) w:=by
 obtain ⟨R,d,_⟩:=KK L M cap l1 n l2
 rw[d] at hs
 unfold F6 item at hs
 simp only[Nat.zero_add] at hs
 have r1:=hs.row n.b 0
 have e:=hs.row L 0
 refine ⟨hs.c n.b 0,hs.c n.b 1,hs.c n.b 4,?_⟩
 rw[N3 Tryz.underlying264 bV r1 e]
 have a:(⟨n.b,0,none⟩:Addr)≠⟨L,1,none⟩:=by simp
 rw[beq_false_of_ne a]
 rfl
theorem YZ{L M:Nat}{cap:Int}{ns:List Nd}{F:Ab}{w:World}(hs:Sat (CP TL TI L M cap ns*F) w):
 w.cell? ⟨L,5,none⟩=some (pt (behind L ns))∧
 (binOp .neq 264 (.pointer (some ⟨L,1,none⟩)) (.pointer (some ⟨L,1,none⟩))).run Tryz.prog w= .ok (.bool false) w:=by
 obtain ⟨R,b⟩:=WR L ns
 unfold CP at hs
 rw[b] at hs
 unfold F6 at hs
 simp only[Nat.reduceAdd] at hs
 have a:=hs.row L 0
 refine ⟨hs.c L 5,?_⟩
 rw[N3 Tryz.underlying264 bV a a]
 simp
theorem KN(L M:Nat)(cap:Int)(ns:List Nd)(F:Ab)(w:World)(hs:Sat (CP TL TI L M cap ns*F) w):
 Calls Tryz.prog 252 #[.pointer (some ⟨L,0,none⟩)] w fun e p=>e= .returned (.tuple #[.int .i64 (Zn ns),.bool (Su ns)])∧w=p:=by
 obtain ⟨f,o⟩:=YZ hs
 unfold pt at f
 go_enter Tryz.func252,Tryz.ntmps252
 go_wp2
 go_loopg [4] ns.length (fun k x wr=> ∃l1 l2,Aside (ns=l1++l2∧(∀m∈l1,m.pins≠0)∧k=l2.length)∧x=pt (behind L l2)∧w=wr)
 case atStart=>exact ⟨[],ns,⟨rfl,by simp,rfl⟩,rfl,rfl⟩
 obtain ⟨l1,l2,A,rfl,rfl⟩:=hrel
 clear f
 cases l2 with
 | nil =>
  have e0:pt (behind L [])= .pointer (some ⟨L,1,none⟩):=rfl
  rw[e0]
  clear e0
  go_wp2
  go_ret2
  obtain ⟨rfl,h,_⟩:=A.out
  have e:NR (l1++ [])=none:=by
   unfold NR
   rw[List.find?_eq_none]
   intro m hm
   simpa using h m (by simpa using hm)
  refine ⟨?_,rfl⟩
  unfold Zn Su
  rw[e];rfl
 | cons n l2 =>
  have e0:pt (behind L (n::l2))= .pointer (some ⟨n.b,0,none⟩):=rfl
  rw[e0]
  clear e0
  have i:=A.out
  obtain ⟨a,h,g⟩:=i
  rw[a] at hs
  obtain ⟨c0,c1,c4,l⟩:=Za hs
  unfold pt at c4
  have H:=As a
  have j:=As g
  clear a hs A g
  by_cases hp:n.pins=0
  · have d:(n.pins==0)=true:=by simpa using hp
    have c:=As hp
    clear hp
    go_wp2
    go_ret2
    have e:NR ns=some n:=by
     rw[H.out,NR,List.find?_append]
     have:l1.find? (fun n=>n.pins==0)=none:=by
      rw[List.find?_eq_none]
      intro m hm
      simpa using h m hm
     rw[this]
     simp[c.out]
    refine ⟨?_,rfl⟩
    unfold Zn Su
    rw[e];rfl
  have d:(n.pins==0)=false:=by simpa using hp
  have c:=As hp
  clear hp
  go_wp2
  go_roundg l2.length
  case measure=>have:=j.out;simp at this;omega
  exact ⟨l1++ [n],l2,⟨by rw[H.out];simp,fun m hm=>by rcases List.mem_append.1 hm with hm|hm;exact h m hm;simp at hm;subst hm;exact c.out,rfl⟩,rfl,rfl⟩
theorem eV(cap:Int)(F:Ab)(w:World)(hs:Sat F w)(h1:1≤cap)(g:cap≤4096):
 Calls Tryz.prog 112 #[.int .i64 cap] w fun e f=> ∃L M,e= .returned (.tuple #[.pointer (some ⟨L,0,none⟩),.int .i64 0])∧Sat (CP TL TI L M cap []*F) f:=by
 have d:= @run_makeMap Tryz.prog
 go_enter Tryz.func112,Tryz.ntmps112
 go_wp2
 go_region
 all_goals
  go_wp2
  go_ret2
  refine ⟨w.heap.size+1,w.heap.size,rfl,Sat.drew ?_⟩
  have b:=hs.CW (.map #[] 0)
  have a:=b.alloc #[.int .i64 cap,.int .i64 0,.int .i64 0,.bool false,.pointer (some ⟨w.heap.size+1,1,none⟩),.pointer (some ⟨w.heap.size+1,1,none⟩),.map (some w.heap.size)] TL
  have e:(w.alloc (.map #[] 0)).heap.size=w.heap.size+1:=by simp
  rw[e] at a
  have c:=Sat.JA (ns:= []) (ms:= []) (M:=w.heap.size) (o:= .map #[] 0) .nil ⟨#[],0,rfl,rfl,by simp,by simp⟩ (a.take (raw w.heap.size _))
  refine c.eq ?_
  simp only[CP,core,block,cells,ring,chain,F6,pt,items,List.length_cons,List.length_nil,List.map_nil,List.nil_append,Bg,Nat.reduceAdd,Nat.zero_add]
  ac_rfl
theorem dN(L M:Nat)(cap:Int)(ns:List Nd)(k:Int)(F:Ab)(w:World)(hs:Sat (CP TL TI L M cap ns*F) w)(b:Jj ns)(c:hasB ns k=true):
 Calls Tryz.prog 230 #[.pointer (some ⟨L,0,none⟩),.int .i64 k] w fun e d=>e= .returned (.tuple #[.int .i64 0,.bool false,.int .i64 1])∧w=d:=by
 have a:=Oc L M cap ns k F w hs b
 rw[c] at a
 clear c hs b
 go_enter Tryz.func230,Tryz.ntmps230
 go_wp2_with (go_at_call 254;refine a.mono ?_;rintro e d ⟨rfl,rfl⟩)
 go_ret3
 exact ⟨rfl,rfl⟩
theorem Sf{L M:Nat}{cap:Int}{ns:List Nd}{F:Ab}{w:World}(hs:Sat (CP TL TI L M cap ns*F) w)(a:TypeId):
 (Builtin.len_ #[TM] a #[.map (some M)]).run Tryz.prog w= .ok (.int .i64 ns.length) w:=by
 unfold CP at hs
 obtain ⟨ms,o,hp,b,hs⟩:=Sat.Gm (hs.take (J9 M ns))
 have:=KZ (kf:=A9) Tryz.underlying267 hs.obj b a
 rw[hp.length_eq,List.length_map] at this
 exact this
theorem H'(L M:Nat)(cap:Int)(ns:List Nd)(k:Int)(F:Ab)(w:World)(hs:Sat (CP TL TI L M cap ns*F) w)(H:Jj ns)(z:hasB ns k=false)(hl:((ns.length:Int)==cap)=false):
 Calls Tryz.prog 230 #[.pointer (some ⟨L,0,none⟩),.int .i64 k] w fun e J=> ∃b,e= .returned (.tuple #[.int .i64 0,.bool false,.int .i64 0])∧Sat (CP TL TI L M cap (ns++ [⟨b,k,0,false⟩])*F) J:=by
 have y:=Oc L M cap ns k F w hs H
 rw[z] at y
 have h0:=(show Sat (core TL L M cap*(J9 M ns*(chain (ring L ns)*items TI ns))*F) w from hs).c L 0
 have t:=(show Sat (core TL L M cap*(J9 M ns*(chain (ring L ns)*items TI ns))*F) w from hs).c L 6
 have j:=fun n O=>Sf (hs.drewN n) O
 have K:=As z
 clear z
 go_enter Tryz.func230,Tryz.ntmps230
 go_wp2_with (go_at_call 254;refine y.mono ?_;rintro e J ⟨rfl,rfl⟩)
 go_quiet (fail)
 have d:=hs.drewN nq
 clear j h0 t y
 generalize w.drewN nq=w0 at d⊢
 clear hs
 have f:Sat (core TL L M cap*(J9 M ns*(chain (ring L ns)*items TI ns))*F) w0:=d
 have g:=f.alloc #[.int .i64 k,.int .i64 0,.bool false,.pointer none,.pointer none] TI
 have t:=f.c L 6
 have u:=g.c L 6
 obtain ⟨ms,o,hp,I,i⟩:=Sat.Gm (g.take (J9 M ns))
 obtain ⟨o',p,G⟩:=CJ Jz Tryz.underlying267 i.obj I k (.pointer (some ⟨w0.heap.size,0,none⟩))
 have q:=i.GZ o'
 have l: ∀m∈ns,m.key≠k:=by
  have:=K.out
  simp only[hasB,List.any_eq_false] at this
  intro m hm
  simpa using this m hm
 have a:=QV hp H (n:=⟨w0.heap.size,k,0,false⟩) l
 have r:=Sat.JA a p q
 obtain ⟨R2,v,x⟩:=ML L ns
 have s:=r.eq (B:=F6 (before L ns) (L,1)*(Sl.cell w0.heap.size 3 (.pointer none)*Sl.cell w0.heap.size 4 (.pointer none))*
  (R2*(core TL L M cap*(J9 M (ns++ [⟨w0.heap.size,k,0,false⟩])*(items TI ns*item TI ⟨w0.heap.size,k,0,false⟩)))*F)) (by
  rw[v]
  simp only[block,cells,item,List.length_cons,List.length_nil,Bg,Nat.reduceAdd,Nat.zero_add]
  ac_rfl)
 clear r q i g f d a l hp I p
 go_wp2_with fail
 refine (RX L w0.heap.size (before L ns) _ _ _ _ s).mono ?_
 rintro e P ⟨rfl,D⟩
 clear s G t u
 go_wp2
 go_ret3
 refine ⟨w0.heap.size,rfl,D.eq ?_⟩
 unfold CP
 rw[x,DA]
 simp only[items,Bg]
 ac_rfl
theorem Yt(L M:Nat)(cap:Int)(ns:List Nd)(k:Int)(F:Ab)(w:World)(hs:Sat (CP TL TI L M cap ns*F) w)(m:Jj ns)(g:hasB ns k=false)(hl:((ns.length:Int)==cap)=true)(j:Su ns=false):
 Calls Tryz.prog 230 #[.pointer (some ⟨L,0,none⟩),.int .i64 k] w fun e i=>e= .returned (.tuple #[.int .i64 0,.bool false,.int .i64 9])∧Sat (CP TL TI L M cap ns*F) i:=by
 have f:=Oc L M cap ns k F w hs m
 rw[g] at f
 have h0:=(show Sat (core TL L M cap*(J9 M ns*(chain (ring L ns)*items TI ns))*F) w from hs).c L 0
 have l:=(show Sat (core TL L M cap*(J9 M ns*(chain (ring L ns)*items TI ns))*F) w from hs).c L 6
 have b:=fun n o=>Sf (hs.drewN n) o
 have p:=As g
 clear g
 go_enter Tryz.func230,Tryz.ntmps230
 go_wp2_with (go_at_call 254;refine f.mono ?_;rintro e i ⟨rfl,rfl⟩)
 go_quiet (fail)
 have d:=hs.drewN nq
 have a:=KN L M cap ns F _ d
 rw[j] at a
 clear b h0 l f j
 go_wp2_with (go_at_call 252;refine a.mono ?_;rintro e i ⟨rfl,rfl⟩)
 go_ret3
 exact ⟨rfl,d⟩
theorem G'(L M:Nat)(cap:Int)(ns:List Nd)(k:Int)(F:Ab)(w:World)(hs:Sat (CP TL TI L M cap ns*F) w)(G:Jj ns)(R:hasB ns k=false)(hl:((ns.length:Int)==cap)=true)(l1:List Nd)(n:Nd)(l2:List Nd)(t:ns=l1++n::l2)(u:NR ns=some n):
 Calls Tryz.prog 230 #[.pointer (some ⟨L,0,none⟩),.int .i64 k] w fun e W=> ∃b,e= .returned (.tuple #[.int .i64 n.key,.bool true,.int .i64 0])∧Sat (CP TL TI L M cap (l1++l2++ [⟨b,k,0,false⟩])*F) W:=by
 have P:=Oc L M cap ns k F w hs G
 rw[R] at P
 have h0:=(show Sat (core TL L M cap*(J9 M ns*(chain (ring L ns)*items TI ns))*F) w from hs).c L 0
 have I:=(show Sat (core TL L M cap*(J9 M ns*(chain (ring L ns)*items TI ns))*F) w from hs).c L 6
 have r:=fun n ty=>Sf (hs.drewN n) ty
 have X:=As R
 have q:=As t
 have H:=As u
 clear t u
 clear R
 go_enter Tryz.func230,Tryz.ntmps230
 go_wp2_with (go_at_call 254;refine P.mono ?_;rintro e W ⟨rfl,rfl⟩)
 go_quiet (fail)
 have f:=hs.drewN nq
 have a:=KN L M cap ns F _ f
 have Y:Zn ns=n.key:=by unfold Zn;rw[H.out];rfl
 have Z:Su ns=true:=by unfold Su;rw[H.out];rfl
 rw[Y,Z] at a
 clear Y Z
 clear r h0 I P
 generalize w.drewN nq=wq at f a⊢
 clear hs
 have i:=Rr L M cap l1 n l2 F wq (q.out▸f) (q.out▸G)
 go_wp2_with (first|(go_at_call 252;refine a.mono ?_;rintro e W ⟨rfl,rfl⟩)|(go_at_call 191;fail))
 refine i.mono ?_
 rintro e g ⟨rfl,x⟩
 clear i a f
 have Q:Jj (l1++l2):=by
  have:=G
  rw[q.out] at this
  rw[←ID this]
  exact o6 this _
 have s: ∀m∈l1++l2,m.key≠k:=by
  have:=X.out
  rw[q.out] at this
  simp only[hasB,List.any_eq_false] at this
  intro m hm
  have T:m∈l1++n::l2:=by simp only[List.mem_append,List.mem_cons] at hm⊢;rcases hm with h|h<;>simp[h]
  simpa using this m T
 clear G hl X H q
 have j:Sat (core TL L M cap*(J9 M (l1++l2)*(chain (ring L (l1++l2))*items TI (l1++l2)))*F) g:=x
 have l:=j.alloc #[.int .i64 k,.int .i64 0,.bool false,.pointer none,.pointer none] TI
 have I:=j.c L 6
 have J:=l.c L 6
 obtain ⟨ms,o,hp,u,p⟩:=Sat.Gm (l.take (J9 M (l1++l2)))
 obtain ⟨o',v,V⟩:=CJ Jz Tryz.underlying267 p.obj u k (.pointer (some ⟨g.heap.size,0,none⟩))
 have y:=p.GZ o'
 have d:=QV hp Q (n:=⟨g.heap.size,k,0,false⟩) s
 have z:=Sat.JA d v y
 obtain ⟨R2,K,O⟩:=ML L (l1++l2)
 have D:=z.eq (B:=F6 (before L (l1++l2)) (L,1)*(Sl.cell g.heap.size 3 (.pointer none)*Sl.cell g.heap.size 4 (.pointer none))*
  (R2*(core TL L M cap*(J9 M ((l1++l2)++ [⟨g.heap.size,k,0,false⟩])*(items TI (l1++l2)*item TI ⟨g.heap.size,k,0,false⟩)))*F)) (by
  rw[K]
  simp only[block,cells,item,List.length_cons,List.length_nil,Bg,Nat.reduceAdd,Nat.zero_add]
  ac_rfl)
 clear z y p l j d s hp u v
 go_wp2_with fail
 refine (RX L g.heap.size (before L (l1++l2)) _ _ _ _ D).mono ?_
 rintro e w2 ⟨rfl,U⟩
 clear D V I J
 go_wp2
 go_ret3
 refine ⟨g.heap.size,rfl,U.eq ?_⟩
 unfold CP
 rw[O]
 simp only[DA,items,Bg]
 ac_rfl
theorem XC: ∃i,C8 Tryz.prog 45 3 1 8 i (.int .i64 0):=Iu Tryz.underlying45 (by kernel_rfl) rfl (by omega)
def kD(cap:Int)(ns:List Nd)(k g:Int)(h:Bool)(c:Int)(a:List Nd):Prop:=
 (hasB ns k=true∧g=0∧h=false∧c=1∧a=ns)∨
 (hasB ns k=false∧(ns.length:Int)≠cap∧g=0∧h=false∧c=0∧ ∃b,a=ns++ [⟨b,k,0,false⟩])∨
 (hasB ns k=false∧(ns.length:Int)=cap∧NR ns=none∧g=0∧h=false∧c=9∧a=ns)∨
 (hasB ns k=false∧(ns.length:Int)=cap∧ ∃n,NR ns=some n∧g=n.key∧h=true∧c=0∧ ∃b,a=Qg ns n.key++ [⟨b,k,0,false⟩])
def dB(L M:Nat)(cap:Int)(ns:List Nd)(k:Int)(F:Ab)(e:Ending)(b:World):Prop:=
 ∃g h c a,e= .returned (.tuple #[.int .i64 g,.bool h,.int .i64 c])∧kD cap ns k g h c a∧Sat (CP TL TI L M cap a*F) b
theorem dM(L M:Nat)(cap:Int)(ns:List Nd)(k:Int)(F:Ab)(w:World)(hs:Sat (CP TL TI L M cap ns*F) w)(d:Jj ns):
 Calls Tryz.prog 230 #[.pointer (some ⟨L,0,none⟩),.int .i64 k] w (dB L M cap ns k F):=by
 cases a:hasB ns k with
 |true=>exact (dN L M cap ns k F w hs d a).mono fun e i ⟨h1,c⟩=>⟨0,false,1,ns,h1,.inl ⟨a,rfl,rfl,rfl,rfl⟩,c▸hs⟩
 | false =>
  cases hl:((ns.length:Int)==cap) with
  | false =>
   refine (H' L M cap ns k F w hs d a hl).mono fun e i ⟨b,h1,c⟩=>⟨0,false,0,_,h1,.inr (.inl ⟨a,by simpa using hl,rfl,rfl,rfl,b,rfl⟩),c⟩
  | true =>
   cases g:NR ns with
   | none =>
    have hb:Su ns=false:=by unfold Su;rw[g];rfl
    exact (Yt L M cap ns k F w hs d a hl hb).mono fun e i ⟨h1,c⟩=>⟨0,false,9,ns,h1,.inr (.inr (.inl ⟨a,by simpa using hl,g,rfl,rfl,rfl,rfl⟩)),c⟩
   | some n =>
    obtain ⟨l1,l2,f⟩:=List.append_of_mem (List.mem_of_find?_eq_some g)
    refine (G' L M cap ns k F w hs d a hl l1 n l2 f g).mono fun e i ⟨b,h1,c⟩=>⟨n.key,true,0,_,h1,.inr (.inr (.inr ⟨a,by simpa using hl,n,g,rfl,rfl,rfl,b,?_⟩)),c⟩
    rw[f] at d⊢
    rw[ID d]
