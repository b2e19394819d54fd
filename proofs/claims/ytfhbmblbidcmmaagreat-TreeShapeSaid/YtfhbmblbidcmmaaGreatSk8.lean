/- treeShape holds for every input. No condition. (part 8) -/
import Derived.Test.YtfhbmblbidcmmaaGreatSk7
import Derived.Test.YtfhbmblbidcmmaaGreatProg
import Derived.WalkLawsBesides
import Derived.BigQuiet
set_option linter.all false
set_option maxHeartbeats 1000000
namespace Go.Proofs.YtfhbmblbidcmmaaGreat
open Go.RowKit Go.Sl Go.QK
abbrev TL:TypeId:=269
abbrev TI:TypeId:=266
abbrev TM:TypeId:=267
theorem Jb:Mt Tryz.prog 3 A8:=Xy Tryz.underlying3
theorem cR(w:World):(zeroValue 264).run Tryz.prog w= .ok (.pointer none) w:=by kernel_rfl
theorem Of{M:Nat}{l1:List Nd}{n:Nd}{l2:List Nd}{F:Ac}{w:World}(hs:Sat (Jn M (l1++n::l2)*F) w)(a:((l1++n::l2).map (·.key)).Nodup):
 (Instr.lookup TM (.map (some M)) (.int .i64 n.key) false).run Tryz.prog w= .ok (.pointer (some ⟨n.b,0,none⟩)) w:=by
 obtain ⟨ms,o,hp,c,hs⟩:=Sat.Ge hs
 have:=D7 Jb Tryz.underlying267 cR hs.obj c n.key false
 rw[LV hp (Ko a),Vg rfl a] at this
 simpa using this
theorem XB{M:Nat}{ns:List Nd}{k:Int}{F:Ac}{w:World}(hs:Sat (Jn M ns*F) w)(a:(ns.map (·.key)).Nodup)(b: ∀n∈ns,n.key≠k):
 (Instr.lookup TM (.map (some M)) (.int .i64 k) false).run Tryz.prog w= .ok (.pointer none) w:=by
 obtain ⟨ms,o,hp,c,hs⟩:=Sat.Ge hs
 have:=D7 Jb Tryz.underlying267 cR hs.obj c k false
 rw[LV hp (Ko a),Qj b] at this
 simpa using this
theorem FV(L M:Nat)(cap:Int)(l1:List Nd)(n:Nd)(l2:List Nd)(F:Ac)(w:World)(hs:Sat (CN TL TI L M cap (l1++n::l2)*F) w)(a:((l1++n::l2).map (·.key)).Nodup):
 Calls Tryz.prog 170 #[.pointer (some ⟨L,0,none⟩),.int .i64 n.key] w fun e d=>e= .returned (.pointer (some ⟨n.b,0,none⟩))∧w=d:=by
 unfold CN at hs
 have f:=hs.c L 6
 have hl:=Of (hs.take (Jn M _)) a
 clear hs a
 go_enter Tryz.func170,Tryz.ntmps170
 go_wp2
 go_ret
 exact ⟨rfl,rfl⟩
theorem JC(L M:Nat)(cap:Int)(ns:List Nd)(k:Int)(F:Ac)(w:World)(hs:Sat (CN TL TI L M cap ns*F) w)(a:(ns.map (·.key)).Nodup)(b: ∀n∈ns,n.key≠k):
 Calls Tryz.prog 170 #[.pointer (some ⟨L,0,none⟩),.int .i64 k] w fun e d=>e= .returned (.pointer none)∧w=d:=by
 unfold CN at hs
 have f:=hs.c L 6
 have hl:=XB (hs.take (Jn M _)) a b
 clear hs a
 go_enter Tryz.func170,Tryz.ntmps170
 go_wp2
 go_ret
 exact ⟨rfl,rfl⟩
def hasB(ns:List Nd)(k:Int):Bool:=ns.any fun n=>n.key==k
theorem MY(L M:Nat)(cap:Int)(ns:List Nd)(k:Int)(F:Ac)(w:World)(hs:Sat (CN TL TI L M cap ns*F) w)(b:(ns.map (·.key)).Nodup):
 Calls Tryz.prog 254 #[.pointer (some ⟨L,0,none⟩),.int .i64 k] w fun e a=>e= .returned (.bool (hasB ns k))∧w=a:=by
 rcases H7 ns k with ⟨l1,n,l2,rfl,rfl⟩|c
 ·have e:hasB (l1++n::l2) n.key=true:=by simp[hasB]
  rw[e]
  go_enter Tryz.func254,Tryz.ntmps254
  go_wp2_with (go_at_call 170;refine (FV _ _ _ _ _ _ _ _ hs b).mono ?_;rintro e a ⟨rfl,rfl⟩)
  go_ret
  exact ⟨rfl,rfl⟩
 have e:hasB ns k=false:=by simp only[hasB,List.any_eq_false];intro n d;simpa using c n d
 rw[e]
 clear e
 go_enter Tryz.func254,Tryz.ntmps254
 go_wp2_with (go_at_call 170;refine (JC _ _ _ _ _ _ _ hs b c).mono ?_;rintro e a ⟨rfl,rfl⟩)
 go_ret
 exact ⟨rfl,rfl⟩
theorem YO(x p n:Nat×Nat)(w:World)(F:Ac)
 (hs:Sat (Fu p x*Fu x n*F) w):
 Calls Tryz.prog 227 #[.pointer (some ⟨x.1,x.2,none⟩)] w fun e l=>e= .returned (.tuple #[])∧
  Sat (Fu p n*(Sl.cell x.1 (x.2+3) (pt p)*Sl.cell x.1 (x.2+4) (pt n))*F) l:=by
 obtain ⟨g,i⟩:=x
 obtain ⟨b,op⟩:=p
 obtain ⟨a,d⟩:=n
 simp only[Fu,pt] at hs⊢
 have h1:=hs.c g (i+3)
 have s:=hs.c g (i+4)
 have t:=hs.c b (op+4)
 have u:=hs.c a (d+3)
 have m:=hs.f b (op+4)
 have o:=hs.f a (d+3)
 have s1:=hs.JQ b (op+4) (.pointer (some ⟨a,d,none⟩))
 have s2:=s1.JQ a (d+3) (.pointer (some ⟨b,op,none⟩))
 have j:=hs.JQ a (d+3) (.pointer (some ⟨b,op,none⟩))
 have k:=j.JQ b (op+4) (.pointer (some ⟨a,d,none⟩))
 have q:=s1.c a (d+3)
 have r:=j.c b (op+4)
 go_enter Tryz.func227,Tryz.ntmps227
 go_wp2
 go_region
 all_goals (go_end0;exact ⟨rfl,(Sat.drew (by first|exact s2.eq (by ac_rfl)|exact k.eq (by ac_rfl)))⟩)
theorem Ra(L a:Nat)(p:Nat×Nat)(v1 v2:Value)(w:World)(F:Ac)
 (hs:Sat (Fu p (L,1)*(Sl.cell a 3 v1*Sl.cell a 4 v2)*F) w):
 Calls Tryz.prog 228 #[.pointer (some ⟨L,0,none⟩),.pointer (some ⟨a,0,none⟩)] w fun e k=>e= .returned (.tuple #[])∧
  Sat (Fu p (a,0)*Fu (a,0) (L,1)*F) k:=by
 obtain ⟨b,op⟩:=p
 simp only[Fu,pt,Nat.zero_add,Nat.reduceAdd] at hs⊢
 have h1:=hs.c L 4
 have y:=hs.c a 3
 have z:=hs.c a 4
 have t:=hs.f a 3
 have u:=hs.f a 4
 have s1:=hs.JQ a 3 (.pointer (some ⟨b,op,none⟩))
 have s2:=s1.JQ a 4 (.pointer (some ⟨L,1,none⟩))
 have g:=hs.JQ a 4 (.pointer (some ⟨L,1,none⟩))
 have d:=g.JQ a 3 (.pointer (some ⟨b,op,none⟩))
 have v:=s1.c a 4
 have x:=g.c a 3
 have s3:=s2.JQ b (op+4) (.pointer (some ⟨a,0,none⟩))
 have s4:=s3.JQ L 4 (.pointer (some ⟨a,0,none⟩))
 have i:=d.JQ b (op+4) (.pointer (some ⟨a,0,none⟩))
 have j:=i.JQ L 4 (.pointer (some ⟨a,0,none⟩))
 have l:=s2.c a 3
 have m:=s2.c b (op+4)
 have n:=hs.f b (op+4)
 have o:=s3.c L 4
 have q:=hs.f L 4
 have r:=d.c a 3
 have b2:=d.c b (op+4)
 have s:=i.c L 4
 go_enter Tryz.func228,Tryz.ntmps228
 go_wp2
 go_region
 all_goals (go_wp2;go_end0;exact ⟨rfl,(Sat.drew (by first|exact s4.eq (by ac_rfl)|exact j.eq (by ac_rfl)))⟩)
theorem Kp(L M:Nat)(cap:Int)(l1:List Nd)(n:Nd)(l2:List Nd): ∃R:Ac,
 (CN TL TI L M cap (l1++n::l2)=Fu (before L l1) (n.b,0)*Fu (n.b,0) (behind L l2)*(core TL L M cap*(Jn M (l1++n::l2)*(R*(items TI l1*(item TI n*items TI l2))))))∧
 (chain (ring L (l1++l2))=Fu (before L l1) (behind L l2)*R):=by
 obtain ⟨R,h1,a⟩:=ZW L l1 n l2
 refine ⟨R,?_,a⟩
 unfold CN
 rw[h1,Dx,items]
 ac_rfl
theorem Q2(L M:Nat)(cap:Int)(l1:List Nd)(n:Nd)(l2:List Nd)(F:Ac)(w:World)(hs:Sat (CN TL TI L M cap (l1++n::l2)*F) w)(m:((l1++n::l2).map (·.key)).Nodup):
 Calls Tryz.prog 191 #[.pointer (some ⟨L,0,none⟩),.int .i64 n.key] w fun e t=>e= .returned (.tuple #[])∧Sat (CN TL TI L M cap (l1++l2)*F) t:=by
 obtain ⟨R,i,l⟩:=Kp L M cap l1 n l2
 have d:Sat (core TL L M cap*(Jn M (l1++n::l2)*(chain (ring L (l1++n::l2))*items TI (l1++n::l2)))*F) w:=hs
 have u:=d.c L 6
 have hl:=Of (d.take (Jn M _)) m
 rw[i,Az] at hs
 clear d i
 go_enter Tryz.func191,Tryz.ntmps191
 go_wp2_with fail
 refine (YO (n.b,0) (before L l1) (behind L l2) _ _ hs).mono ?_
 rintro e v ⟨rfl,f⟩
 have s:=f.c L 6
 obtain ⟨ms,o,hp,r,g⟩:=Sat.Ge (f.take (Jn M (l1++n::l2)))
 obtain ⟨o',j,q⟩:=GI Jb Tryz.underlying267 g.obj r n.key
 have k:=g.K8 o'
 have a:=XI hp (Ko m) n.key
 rw[Vf rfl m] at a
 have p:=(Sat.Jo a j k)
 clear k g f hs r j hp a
 go_wp2
 go_end0
 refine ⟨rfl,?_⟩
 refine Sat.Dq (B:=item TI n*(Sl.cell n.b 3 (pt (before L l1))*Sl.cell n.b 4 (pt (behind L l2)))) (p.eq ?_)
 unfold CN
 rw[l,Dx]
 simp only[Nat.zero_add]
 ac_rfl
def IE(ns:List Nd):Prop:=(ns.map (·.key)).Nodup
def Px(ns:List Nd)(k:Int):List Nd:=ns.filter fun n=>n.key !=k
def VU(ns:List Nd)(k:Int):List Nd:=Px ns k++ns.filter fun n=>n.key==k
def eI(f:Nd→Nd)(ns:List Nd)(k:Int):List Nd:=ns.map fun n=>if n.key=k then f n else n
theorem Na{l1:List Nd}{n:Nd}{l2:List Nd}(h:IE (l1++n::l2)):(∀m∈l1,m.key≠n.key)∧ ∀m∈l2,m.key≠n.key:=by simp_all[IE,List.map_append,List.map_cons,List.nodup_append,List.nodup_cons,List.mem_cons,List.mem_map]
theorem LL{l:List Nd}{k:Int}(h: ∀m∈l,m.key≠k):(l.filter fun n=>n.key !=k)=l:=List.filter_eq_self.2 fun m hm=>by simpa using h m hm
theorem filter_eq{l:List Nd}{k:Int}(h: ∀m∈l,m.key≠k):(l.filter fun n=>n.key==k)= []:=List.filter_eq_nil_iff.2 fun m hm=>by simpa using h m hm
theorem Ip{l1:List Nd}{n:Nd}{l2:List Nd}(h:IE (l1++n::l2)):Px (l1++n::l2) n.key=l1++l2:=by
 obtain ⟨a,b⟩:=Na h
 simp[Px,List.filter_append,LL a,LL b]
theorem VV{l1:List Nd}{n:Nd}{l2:List Nd}(h:IE (l1++n::l2)):VU (l1++n::l2) n.key=l1++l2++ [n]:=by
 obtain ⟨a,b⟩:=Na h
 rw[VU,Ip h]
 simp[List.filter_append,filter_eq a,filter_eq b]
theorem Xc{f:Nd→Nd}{l1:List Nd}{n:Nd}{l2:List Nd}(h:IE (l1++n::l2)):eI f (l1++n::l2) n.key=l1++f n::l2:=by
 obtain ⟨a,b⟩:=Na h
 have e: ∀l:List Nd,(∀m∈l,m.key≠n.key)→(l.map fun m=>if m.key=n.key then f m else m)=l:=by
  intro l hl
  exact (List.map_congr_left (fun m hm=>if_neg (hl m hm))).trans (List.map_id' l)
 simp_all[eI,List.map_append]
theorem XQ{ns:List Nd}{k:Int}(h: ∀m∈ns,m.key≠k):Px ns k=ns:=LL h
theorem Ys{ns:List Nd}{k:Int}(h: ∀m∈ns,m.key≠k):VU ns k=ns:=by rw[VU,XQ h,filter_eq h,List.append_nil]
theorem YF{f:Nd→Nd}{ns:List Nd}{k:Int}(h: ∀m∈ns,m.key≠k):eI f ns k=ns:=
 (List.map_congr_left (fun m hm=>if_neg (h m hm))).trans (List.map_id' ns)
theorem NP{l1:List Nd}{n:Nd}{l2:List Nd} :hasB (l1++n::l2) n.key=true:=by simp[hasB]
theorem PT{ns:List Nd}{k:Int}(h: ∀m∈ns,m.key≠k):hasB ns k=false:=by simp_all[hasB,List.any_eq_false]
theorem Zo{ns:List Nd}(h:IE ns)(k:Int):IE (Px ns k):=by grind [IE,Px]
theorem bO(L M:Nat)(cap:Int)(ns:List Nd)(k:Int)(F:Ac)(w:World)(hs:Sat (CN TL TI L M cap ns*F) w)(l:IE ns):
 Calls Tryz.prog 180 #[.pointer (some ⟨L,0,none⟩),.int .i64 k] w fun e p=>e= .returned (.bool (hasB ns k))∧Sat (CN TL TI L M cap (VU ns k)*F) p:=by
 rcases H7 ns k with ⟨l1,n,l2,rfl,rfl⟩|m
 ·rw[NP,VV l]
  obtain ⟨R,f,g⟩:=Kp L M cap l1 n l2
  obtain ⟨R2,i,j⟩:=Mi L (l1++l2)
  have a:=hs
  rw[f,Az] at a
  go_enter Tryz.func180,Tryz.ntmps180
  go_wp2_with (go_at_call 170;refine (FV _ _ _ _ _ _ _ _ hs l).mono ?_;rintro e p ⟨rfl,rfl⟩)
  refine (YO (n.b,0) (before L l1) (behind L l2) _ _ a).mono ?_
  rintro e r ⟨rfl,c⟩
  have d:Sat (Fu (before L (l1++l2)) (L,1)*(Sl.cell n.b 3 (pt (before L l1))*Sl.cell n.b 4 (pt (behind L l2)))*(R2*(core TL L M cap*(Jn M (l1++n::l2)*(items TI l1*(item TI n*items TI l2))*F)))) r:=by
   refine c.eq ?_
   have q:=g.symm.trans i
   simp only[Nat.zero_add]
   calc _=(Fu (before L l1) (behind L l2)*R)*((Sl.cell n.b 3 (pt (before L l1))*Sl.cell n.b 4 (pt (behind L l2)))*(core TL L M cap*(Jn M (l1++n::l2)*(items TI l1*(item TI n*items TI l2))*F))):=by ac_rfl
    _=_:=by rw[q];ac_rfl
  clear a c hs
  go_wp2_with fail
  refine (Ra L n.b (before L (l1++l2)) _ _ _ _ d).mono ?_
  rintro e s ⟨rfl,o⟩
  clear d
  go_wp2
  go_ret
  refine ⟨rfl,o.eq ?_⟩
  have hp:(l1++n::l2).Perm (l1++l2++ [n]):=by
   rw[List.append_assoc];exact List.Perm.append_left l1 (List.perm_append_singleton n l2).symm
  unfold CN
  rw[j,ZH hp,←UU hp,Dx,items]
  ac_rfl
 rw[PT m,Ys m]
 go_enter Tryz.func180,Tryz.ntmps180
 go_wp2_with (go_at_call 170;refine (JC _ _ _ _ _ _ _ hs l m).mono ?_;rintro e p ⟨rfl,rfl⟩)
 go_ret
 exact ⟨rfl,hs⟩
theorem Oj(L M:Nat)(cap:Int)(l1:List Nd)(n:Nd)(l2:List Nd)(F:Ac):
 CN TL TI L M cap (l1++n::l2)*F=item TI n*(core TL L M cap*(Jn M (l1++n::l2)*(chain (ring L (l1++n::l2))*(items TI l1*items TI l2)))*F):=by
 unfold CN
 rw[Dx,items]
 ac_rfl
theorem SY(L M:Nat)(cap:Int)(l1:List Nd)(n n':Nd)(l2:List Nd)(F:Ac)(hb:n'.b=n.b)(a:n'.key=n.key):
 item TI n'*(core TL L M cap*(Jn M (l1++n::l2)*(chain (ring L (l1++n::l2))*(items TI l1*items TI l2)))*F)=CN TL TI L M cap (l1++n'::l2)*F:=by
 rw[Oj]
 have c:Jn M (l1++n::l2)=Jn M (l1++n'::l2):=by
  have:(l1++n::l2).map kv=(l1++n'::l2).map kv:=by simp[kv,hb,a]
  unfold Jn;rw[this]
 have d:ring L (l1++n::l2)=ring L (l1++n'::l2):=by simp[ring,hb]
 simp_all
theorem Zw(L M:Nat)(cap:Int)(ns:List Nd)(k:Int)(d:Bool)(F:Ac)(w:World)(hs:Sat (CN TL TI L M cap ns*F) w)(g:IE ns):
 Calls Tryz.prog 148 #[.pointer (some ⟨L,0,none⟩),.int .i64 k,.bool d] w fun e j=>e= .returned (.bool (hasB ns k))∧Sat (CN TL TI L M cap (eI (fun n=> { n with Jg:=d }) ns k)*F) j:=by
 rcases H7 ns k with ⟨l1,n,l2,rfl,rfl⟩|i
 ·rw[NP,Xc g]
  have a:=hs
  rw[Oj] at a
  unfold item at a
  have c1:=a.c n.b 2
  have l:=a.f n.b 2
  have s1:=a.JQ n.b 2 (.bool d)
  have s2:Sat (CN TL TI L M cap (l1++ { n with Jg:=d } ::l2)*F) (w.setCell ⟨n.b,2,none⟩ (.bool d)):=by
   refine s1.eq ?_
   rw[←SY L M cap l1 n { n with Jg:=d } l2 F rfl rfl]
   rfl
  clear a s1
  go_enter Tryz.func148,Tryz.ntmps148
  go_wp2_with (go_at_call 170;refine (FV _ _ _ _ _ _ _ _ hs g).mono ?_;rintro e j ⟨rfl,rfl⟩)
  go_ret
  exact ⟨rfl,s2⟩
 rw[PT i,YF i]
 go_enter Tryz.func148,Tryz.ntmps148
 go_wp2_with (go_at_call 170;refine (JC _ _ _ _ _ _ _ hs g i).mono ?_;rintro e j ⟨rfl,rfl⟩)
 go_ret
 exact ⟨rfl,hs⟩
theorem YV(L M:Nat)(cap:Int)(ns:List Nd)(k:Int)(F:Ac)(w:World)(hs:Sat (CN TL TI L M cap ns*F) w)(g:IE ns)(hb: ∀n∈ns,0≤n.pins):
 Calls Tryz.prog 164 #[.pointer (some ⟨L,0,none⟩),.int .i64 k] w fun e o=>e= .returned (.bool (ns.any fun n=>n.key==k&&n.pins==0))∧
  Sat (CN TL TI L M cap (if (ns.any fun n=>n.key==k&&n.pins==0) then Px ns k else ns)*F) o:=by
 rcases H7 ns k with ⟨l1,n,l2,rfl,rfl⟩|r
 · have s:=hb n (by simp)
   obtain ⟨i,j⟩:=Na g
   have a:((l1++n::l2).any fun m=>m.key==n.key&&m.pins==0)=(n.pins==0):=by
    have e: ∀l:List Nd,(∀m∈l,m.key≠n.key)→(l.any fun m=>m.key==n.key&&m.pins==0)=false:=by
     intro l hl
     simp only[List.any_eq_false]
     intro m hm
     have:=hl m hm
     simp[this]
    simp[List.any_append,e _ i,e _ j]
   rw[a]
   have d:=hs
   rw[Oj] at d
   unfold item at d
   have c1:=d.c n.b 1
   clear a i j d hb
   by_cases hp:n.pins=0
   · have p: ¬(0<n.pins):=by omega
     have f:(n.pins==0)=true:=by simpa using hp
     rw[f,if_pos rfl,Ip g]
     clear hp
     go_enter Tryz.func164,Tryz.ntmps164
     go_wp2_with (first|(go_at_call 170;refine (FV _ _ _ _ _ _ _ _ hs g).mono ?_;rintro e o ⟨rfl,rfl⟩)|(go_at_call 191;refine (Q2 _ _ _ _ _ _ _ _ hs g).mono ?_;rintro e t ⟨rfl,q⟩))
     go_ret
     exact ⟨rfl,q⟩
   have p:0<n.pins:=by omega
   have f:(n.pins==0)=false:=by simpa using hp
   rw[f,if_neg (by simp)]
   clear hp
   go_enter Tryz.func164,Tryz.ntmps164
   go_wp2_with (go_at_call 170;refine (FV _ _ _ _ _ _ _ _ hs g).mono ?_;rintro e o ⟨rfl,rfl⟩)
   go_ret
   exact ⟨rfl,hs⟩
 have a:(ns.any fun m=>m.key==k&&m.pins==0)=false:=by
  simp only[List.any_eq_false]
  intro m hm
  have:=r m hm
  simp[this]
 rw[a,if_neg (by simp)]
 clear hb a
 go_enter Tryz.func164,Tryz.ntmps164
 go_wp2_with (go_at_call 170;refine (JC _ _ _ _ _ _ _ hs g r).mono ?_;rintro e o ⟨rfl,rfl⟩)
 go_ret
 exact ⟨rfl,hs⟩
def LZ(ns:List Nd):Option Nd:=ns.find? fun n=>n.pins==0
def XP(ns:List Nd):Int:=((LZ ns).map (·.key)).getD 0
def Rv(ns:List Nd):Bool:=(LZ ns).isSome
theorem H':(Tryz.prog.info? 266).map (·.size)=some (4+1):=by kernel_rfl
theorem XD{L M:Nat}{cap:Int}{l1:List Nd}{n:Nd}{l2:List Nd}{F:Ac}{w:World}(hs:Sat (CN TL TI L M cap (l1++n::l2)*F) w):
 w.cell? ⟨n.b,0,none⟩=some (.int .i64 n.key)∧w.cell? ⟨n.b,1,none⟩=some (.int .i64 n.pins)∧w.cell? ⟨n.b,4,none⟩=some (pt (behind L l2))∧
 (binOp .neq 264 (.pointer (some ⟨n.b,0,none⟩)) (.pointer (some ⟨L,1,none⟩))).run Tryz.prog w= .ok (.bool true) w:=by
 obtain ⟨R,d,_⟩:=Kp L M cap l1 n l2
 rw[d] at hs
 unfold Fu item at hs
 simp only[Nat.zero_add] at hs
 have r1:=hs.row n.b 0
 have e:=hs.row L 0
 refine ⟨hs.c n.b 0,hs.c n.b 1,hs.c n.b 4,?_⟩
 rw[MJ Tryz.underlying264 H' r1 e]
 have a:(⟨n.b,0,none⟩:Addr)≠⟨L,1,none⟩:=by simp
 rw[beq_false_of_ne a]
 rfl
theorem XC{L M:Nat}{cap:Int}{ns:List Nd}{F:Ac}{w:World}(hs:Sat (CN TL TI L M cap ns*F) w):
 w.cell? ⟨L,5,none⟩=some (pt (behind L ns))∧
 (binOp .neq 264 (.pointer (some ⟨L,1,none⟩)) (.pointer (some ⟨L,1,none⟩))).run Tryz.prog w= .ok (.bool false) w:=by
 obtain ⟨R,b⟩:=V9 L ns
 unfold CN at hs
 rw[b] at hs
 unfold Fu at hs
 simp only[Nat.reduceAdd] at hs
 have a:=hs.row L 0
 refine ⟨hs.c L 5,?_⟩
 rw[MJ Tryz.underlying264 H' a a]
 simp
theorem Ks(L M:Nat)(cap:Int)(ns:List Nd)(F:Ac)(w:World)(hs:Sat (CN TL TI L M cap ns*F) w):
 Calls Tryz.prog 252 #[.pointer (some ⟨L,0,none⟩)] w fun e p=>e= .returned (.tuple #[.int .i64 (XP ns),.bool (Rv ns)])∧w=p:=by
 obtain ⟨f,o⟩:=XC hs
 unfold pt at f
 go_enter Tryz.func252,Tryz.ntmps252
 go_wp2
 go_loopg [4] ns.length (fun k x wr=> ∃l1 l2,Aside (ns=l1++l2∧(∀m∈l1,m.pins≠0)∧k=l2.length)∧x=pt (behind L l2)∧w=wr)
 case atStart=>exact ⟨[],ns,⟨rfl,by simp,rfl⟩,rfl,rfl⟩
 obtain ⟨l1,l2,A,rfl,rfl⟩:=hrel
 clear f
 cases l2 with
 | nil =>
  have e0:pt (behind L [])= .pointer (some ⟨L,1,none⟩):=rfl
  rw[e0]
  clear e0
  go_wp2
  go_ret2
  obtain ⟨rfl,h,_⟩:=A.out
  have e:LZ (l1++ [])=none:=by
   unfold LZ
   rw[List.find?_eq_none]
   intro m hm
   simpa using h m (by simpa using hm)
  refine ⟨?_,rfl⟩
  unfold XP Rv
  rw[e];rfl
 | cons n l2 =>
  have e0:pt (behind L (n::l2))= .pointer (some ⟨n.b,0,none⟩):=rfl
  rw[e0]
  clear e0
  have i:=A.out
  obtain ⟨a,h,g⟩:=i
  rw[a] at hs
  obtain ⟨c0,c1,c4,l⟩:=XD hs
  unfold pt at c4
  have H:Aside (ns=l1++n::l2):=a
  have j:Aside (gk=(n::l2).length):=g
  clear a hs A g
  by_cases hp:n.pins=0
  · have d:(n.pins==0)=true:=by simpa using hp
    have c:Aside (n.pins=0):=hp
    clear hp
    go_wp2
    go_ret2
    have e:LZ ns=some n:=by
     rw[H.out,LZ,List.find?_append]
     have:l1.find? (fun n=>n.pins==0)=none:=by
      rw[List.find?_eq_none]
      intro m hm
      simpa using h m hm
     rw[this]
     simp[c.out]
    refine ⟨?_,rfl⟩
    unfold XP Rv
    rw[e];rfl
  have d:(n.pins==0)=false:=by simpa using hp
  have c:Aside (n.pins≠0):=hp
  clear hp
  go_wp2
  go_roundg l2.length
  case measure=>have:=j.out;simp at this;omega
  exact ⟨l1++ [n],l2,⟨by rw[H.out];simp,fun m hm=>by rcases List.mem_append.1 hm with hm|hm;exact h m hm;simp at hm;subst hm;exact c.out,rfl⟩,rfl,rfl⟩
theorem aG(cap:Int)(F:Ac)(w:World)(hs:Sat F w)(h1:1≤cap)(g:cap≤4096):
 Calls Tryz.prog 112 #[.int .i64 cap] w fun e f=> ∃L M,e= .returned (.tuple #[.pointer (some ⟨L,0,none⟩),.int .i64 0])∧Sat (CN TL TI L M cap []*F) f:=by
 have d:= @run_makeMap Tryz.prog
 go_enter Tryz.func112,Tryz.ntmps112
 go_wp2
 go_region
 all_goals
  go_wp2
  go_ret2
  refine ⟨w.heap.size+1,w.heap.size,rfl,Sat.drew ?_⟩
  have b:=hs.Dh (.map #[] 0)
  have a:=b.alloc #[.int .i64 cap,.int .i64 0,.int .i64 0,.bool false,.pointer (some ⟨w.heap.size+1,1,none⟩),.pointer (some ⟨w.heap.size+1,1,none⟩),.map (some w.heap.size)] TL
  have e:(w.alloc (.map #[] 0)).heap.size=w.heap.size+1:=by simp
  rw[e] at a
  have c:=Sat.Jo (ns:= []) (ms:= []) (M:=w.heap.size) (o:= .map #[] 0) .nil ⟨#[],0,rfl,rfl,by simp,by simp⟩ (a.take (raw w.heap.size _))
  refine c.eq ?_
  simp only[CN,core,block,cells,ring,chain,Fu,pt,items,List.length_cons,List.length_nil,List.map_nil,List.nil_append,Br,Nat.reduceAdd,Nat.zero_add]
  ac_rfl
theorem l6(L M:Nat)(cap:Int)(ns:List Nd)(k:Int)(F:Ac)(w:World)(hs:Sat (CN TL TI L M cap ns*F) w)(b:IE ns)(c:hasB ns k=true):
 Calls Tryz.prog 230 #[.pointer (some ⟨L,0,none⟩),.int .i64 k] w fun e d=>e= .returned (.tuple #[.int .i64 0,.bool false,.int .i64 1])∧w=d:=by
 have a:=MY L M cap ns k F w hs b
 rw[c] at a
 clear c hs b
 go_enter Tryz.func230,Tryz.ntmps230
 go_wp2_with (go_at_call 254;refine a.mono ?_;rintro e d ⟨rfl,rfl⟩)
 go_ret3
 exact ⟨rfl,rfl⟩
theorem Rj{L M:Nat}{cap:Int}{ns:List Nd}{F:Ac}{w:World}(hs:Sat (CN TL TI L M cap ns*F) w)(a:TypeId):
 (Builtin.len_ #[TM] a #[.map (some M)]).run Tryz.prog w= .ok (.int .i64 ns.length) w:=by
 unfold CN at hs
 obtain ⟨ms,o,hp,b,hs⟩:=Sat.Ge (hs.take (Jn M ns))
 have:=K7 (kf:=A8) Tryz.underlying267 hs.obj b a
 rw[hp.length_eq,List.length_map] at this
 exact this
theorem YE(L M:Nat)(cap:Int)(ns:List Nd)(k:Int)(F:Ac)(w:World)(hs:Sat (CN TL TI L M cap ns*F) w)(H:IE ns)(z:hasB ns k=false)(hl:((ns.length:Int)==cap)=false):
 Calls Tryz.prog 230 #[.pointer (some ⟨L,0,none⟩),.int .i64 k] w fun e J=> ∃b,e= .returned (.tuple #[.int .i64 0,.bool false,.int .i64 0])∧Sat (CN TL TI L M cap (ns++ [⟨b,k,0,false⟩])*F) J:=by
 have y:=MY L M cap ns k F w hs H
 rw[z] at y
 have h0:=(show Sat (core TL L M cap*(Jn M ns*(chain (ring L ns)*items TI ns))*F) w from hs).c L 0
 have t:=(show Sat (core TL L M cap*(Jn M ns*(chain (ring L ns)*items TI ns))*F) w from hs).c L 6
 have j:=fun n O=>Rj (hs.drewN n) O
 have K:Aside (hasB ns k=false):=z
 clear z
 go_enter Tryz.func230,Tryz.ntmps230
 go_wp2_with (go_at_call 254;refine y.mono ?_;rintro e J ⟨rfl,rfl⟩)
 go_quiet (fail)
 have d:=hs.drewN nq
 clear j h0 t y
 generalize w.drewN nq=w0 at d⊢
 clear hs
 have f:Sat (core TL L M cap*(Jn M ns*(chain (ring L ns)*items TI ns))*F) w0:=d
 have g:=f.alloc #[.int .i64 k,.int .i64 0,.bool false,.pointer none,.pointer none] TI
 have t:=f.c L 6
 have u:=g.c L 6
 obtain ⟨ms,o,hp,I,i⟩:=Sat.Ge (g.take (Jn M ns))
 obtain ⟨o',p,G⟩:=Dn Jb Tryz.underlying267 i.obj I k (.pointer (some ⟨w0.heap.size,0,none⟩))
 have q:=i.K8 o'
 have l: ∀m∈ns,m.key≠k:=by
  have:=K.out
  simp only[hasB,List.any_eq_false] at this
  intro m hm
  simpa using this m hm
 have a:=Qk hp H (n:=⟨w0.heap.size,k,0,false⟩) l
 have r:=Sat.Jo a p q
 obtain ⟨R2,v,x⟩:=Mi L ns
 have s:=r.eq (B:=Fu (before L ns) (L,1)*(Sl.cell w0.heap.size 3 (.pointer none)*Sl.cell w0.heap.size 4 (.pointer none))*
  (R2*(core TL L M cap*(Jn M (ns++ [⟨w0.heap.size,k,0,false⟩])*(items TI ns*item TI ⟨w0.heap.size,k,0,false⟩)))*F)) (by
  rw[v]
  simp only[block,cells,item,List.length_cons,List.length_nil,Br,Nat.reduceAdd,Nat.zero_add]
  ac_rfl)
 clear r q i g f d a l hp I p
 go_wp2_with fail
 refine (Ra L w0.heap.size (before L ns) _ _ _ _ s).mono ?_
 rintro e P ⟨rfl,D⟩
 clear s G t u
 go_wp2
 go_ret3
 refine ⟨w0.heap.size,rfl,D.eq ?_⟩
 unfold CN
 rw[x,Dx]
 simp only[items,Br]
 ac_rfl
theorem Xb(L M:Nat)(cap:Int)(ns:List Nd)(k:Int)(F:Ac)(w:World)(hs:Sat (CN TL TI L M cap ns*F) w)(m:IE ns)(g:hasB ns k=false)(hl:((ns.length:Int)==cap)=true)(j:Rv ns=false):
 Calls Tryz.prog 230 #[.pointer (some ⟨L,0,none⟩),.int .i64 k] w fun e i=>e= .returned (.tuple #[.int .i64 0,.bool false,.int .i64 9])∧Sat (CN TL TI L M cap ns*F) i:=by
 have f:=MY L M cap ns k F w hs m
 rw[g] at f
 have h0:=(show Sat (core TL L M cap*(Jn M ns*(chain (ring L ns)*items TI ns))*F) w from hs).c L 0
 have l:=(show Sat (core TL L M cap*(Jn M ns*(chain (ring L ns)*items TI ns))*F) w from hs).c L 6
 have b:=fun n o=>Rj (hs.drewN n) o
 have p:Aside (hasB ns k=false):=g
 clear g
 go_enter Tryz.func230,Tryz.ntmps230
 go_wp2_with (go_at_call 254;refine f.mono ?_;rintro e i ⟨rfl,rfl⟩)
 go_quiet (fail)
 have d:=hs.drewN nq
 have a:=Ks L M cap ns F _ d
 rw[j] at a
 clear b h0 l f j
 go_wp2_with (go_at_call 252;refine a.mono ?_;rintro e i ⟨rfl,rfl⟩)
 go_ret3
 exact ⟨rfl,d⟩
theorem YD(L M:Nat)(cap:Int)(ns:List Nd)(k:Int)(F:Ac)(w:World)(hs:Sat (CN TL TI L M cap ns*F) w)(G:IE ns)(R:hasB ns k=false)(hl:((ns.length:Int)==cap)=true)(l1:List Nd)(n:Nd)(l2:List Nd)(t:ns=l1++n::l2)(u:LZ ns=some n):
 Calls Tryz.prog 230 #[.pointer (some ⟨L,0,none⟩),.int .i64 k] w fun e W=> ∃b,e= .returned (.tuple #[.int .i64 n.key,.bool true,.int .i64 0])∧Sat (CN TL TI L M cap (l1++l2++ [⟨b,k,0,false⟩])*F) W:=by
 have P:=MY L M cap ns k F w hs G
 rw[R] at P
 have h0:=(show Sat (core TL L M cap*(Jn M ns*(chain (ring L ns)*items TI ns))*F) w from hs).c L 0
 have I:=(show Sat (core TL L M cap*(Jn M ns*(chain (ring L ns)*items TI ns))*F) w from hs).c L 6
 have r:=fun n ty=>Rj (hs.drewN n) ty
 have X:Aside (hasB ns k=false):=R
 have q:Aside (ns=l1++n::l2):=t
 have H:Aside (LZ ns=some n):=u
 clear t u
 clear R
 go_enter Tryz.func230,Tryz.ntmps230
 go_wp2_with (go_at_call 254;refine P.mono ?_;rintro e W ⟨rfl,rfl⟩)
 go_quiet (fail)
 have f:=hs.drewN nq
 have a:=Ks L M cap ns F _ f
 have Y:XP ns=n.key:=by unfold XP;rw[H.out];rfl
 have Z:Rv ns=true:=by unfold Rv;rw[H.out];rfl
 rw[Y,Z] at a
 clear Y Z
 clear r h0 I P
 generalize w.drewN nq=wq at f a⊢
 clear hs
 have i:=Q2 L M cap l1 n l2 F wq (q.out▸f) (q.out▸G)
 go_wp2_with (first|(go_at_call 252;refine a.mono ?_;rintro e W ⟨rfl,rfl⟩)|(go_at_call 191;fail))
 refine i.mono ?_
 rintro e g ⟨rfl,x⟩
 clear i a f
 have Q:IE (l1++l2):=by
  have:=G
  rw[q.out] at this
  rw[←Ip this]
  exact Zo this _
 have s: ∀m∈l1++l2,m.key≠k:=by
  have:=X.out
  rw[q.out] at this
  simp only[hasB,List.any_eq_false] at this
  intro m hm
  have T:m∈l1++n::l2:=by simp only[List.mem_append,List.mem_cons] at hm⊢;rcases hm with h|h<;>simp[h]
  simpa using this m T
 clear G hl X H q
 have j:Sat (core TL L M cap*(Jn M (l1++l2)*(chain (ring L (l1++l2))*items TI (l1++l2)))*F) g:=x
 have l:=j.alloc #[.int .i64 k,.int .i64 0,.bool false,.pointer none,.pointer none] TI
 have I:=j.c L 6
 have J:=l.c L 6
 obtain ⟨ms,o,hp,u,p⟩:=Sat.Ge (l.take (Jn M (l1++l2)))
 obtain ⟨o',v,V⟩:=Dn Jb Tryz.underlying267 p.obj u k (.pointer (some ⟨g.heap.size,0,none⟩))
 have y:=p.K8 o'
 have d:=Qk hp Q (n:=⟨g.heap.size,k,0,false⟩) s
 have z:=Sat.Jo d v y
 obtain ⟨R2,K,O⟩:=Mi L (l1++l2)
 have D:=z.eq (B:=Fu (before L (l1++l2)) (L,1)*(Sl.cell g.heap.size 3 (.pointer none)*Sl.cell g.heap.size 4 (.pointer none))*
  (R2*(core TL L M cap*(Jn M ((l1++l2)++ [⟨g.heap.size,k,0,false⟩])*(items TI (l1++l2)*item TI ⟨g.heap.size,k,0,false⟩)))*F)) (by
  rw[K]
  simp only[block,cells,item,List.length_cons,List.length_nil,Br,Nat.reduceAdd,Nat.zero_add]
  ac_rfl)
 clear z y p l j d s hp u v
 go_wp2_with fail
 refine (Ra L g.heap.size (before L (l1++l2)) _ _ _ _ D).mono ?_
 rintro e w2 ⟨rfl,U⟩
 clear D V I J
 go_wp2
 go_ret3
 refine ⟨g.heap.size,rfl,U.eq ?_⟩
 unfold CN
 rw[O]
 simp only[Dx,items,Br]
 ac_rfl
