/- treeFails holds for every input. No condition. (part 2) -/
import Derived.Test.YtfhbmblbidcmmaaGreatYa1
import Derived.Test.YtfhbmblbidcmmaaGreatProg
import Derived.WalkLawsBesides
import Derived.BigQuiet
set_option linter.all false
set_option maxHeartbeats 1000000
namespace Go.Proofs.YtfhbmblbidcmmaaGreat
open Go.RowKit Go.Sl Go.UB
abbrev TL:TypeId:=269
abbrev TI:TypeId:=266
abbrev TM:TypeId:=267
theorem I3:Kl Tryz.prog 3 AZ:=UX Tryz.underlying3
theorem Zr(w:World):(zeroValue 264).run Tryz.prog w= .ok (.pointer none) w:=by kernel_rfl
theorem Na{M:Nat}{l1:List Nd}{n:Nd}{l2:List Nd}{F:Ac}{w:World}(hs:Sat (IG M (l1++n::l2)*F) w)(a:((l1++n::l2).map (·.key)).Nodup):
 (Instr.lookup TM (.map (some M)) (.int .i64 n.key) false).run Tryz.prog w= .ok (.pointer (some ⟨n.b,0,none⟩)) w:=by
 obtain ⟨ms,o,hp,c,hs⟩:=Sat.FV hs
 have:=D1 I3 Tryz.underlying267 Zr hs.obj c n.key false
 rw[L2 hp (JP a),SX rfl a] at this
 simpa using this
theorem Vg{M:Nat}{ns:List Nd}{k:Int}{F:Ac}{w:World}(hs:Sat (IG M ns*F) w)(a:(ns.map (·.key)).Nodup)(b: ∀n∈ns,n.key≠k):
 (Instr.lookup TM (.map (some M)) (.int .i64 k) false).run Tryz.prog w= .ok (.pointer none) w:=by
 obtain ⟨ms,o,hp,c,hs⟩:=Sat.FV hs
 have:=D1 I3 Tryz.underlying267 Zr hs.obj c k false
 rw[L2 hp (JP a),Pa b] at this
 simpa using this
theorem FM(L M:Nat)(cap:Int)(l1:List Nd)(n:Nd)(l2:List Nd)(F:Ac)(w:World)(hs:Sat (CC TL TI L M cap (l1++n::l2)*F) w)(a:((l1++n::l2).map (·.key)).Nodup):
 Calls Tryz.prog 170 #[.pointer (some ⟨L,0,none⟩),.int .i64 n.key] w fun e d=>e= .returned (.pointer (some ⟨n.b,0,none⟩))∧w=d:=by
 unfold CC at hs
 have f:=hs.c L 6
 have hl:=Na (hs.take (IG M _)) a
 clear hs a
 go_enter Tryz.func170,Tryz.ntmps170
 go_wp2
 go_ret
 exact ⟨rfl,rfl⟩
theorem Jd(L M:Nat)(cap:Int)(ns:List Nd)(k:Int)(F:Ac)(w:World)(hs:Sat (CC TL TI L M cap ns*F) w)(a:(ns.map (·.key)).Nodup)(b: ∀n∈ns,n.key≠k):
 Calls Tryz.prog 170 #[.pointer (some ⟨L,0,none⟩),.int .i64 k] w fun e d=>e= .returned (.pointer none)∧w=d:=by
 unfold CC at hs
 have f:=hs.c L 6
 have hl:=Vg (hs.take (IG M _)) a b
 clear hs a
 go_enter Tryz.func170,Tryz.ntmps170
 go_wp2
 go_ret
 exact ⟨rfl,rfl⟩
def hasB(ns:List Nd)(k:Int):Bool:=ns.any fun n=>n.key==k
theorem Mw(L M:Nat)(cap:Int)(ns:List Nd)(k:Int)(F:Ac)(w:World)(hs:Sat (CC TL TI L M cap ns*F) w)(b:(ns.map (·.key)).Nodup):
 Calls Tryz.prog 254 #[.pointer (some ⟨L,0,none⟩),.int .i64 k] w fun e a=>e= .returned (.bool (hasB ns k))∧w=a:=by
 rcases Hj ns k with ⟨l1,n,l2,rfl,rfl⟩|c
 ·have e:hasB (l1++n::l2) n.key=true:=by simp[hasB]
  rw[e]
  go_enter Tryz.func254,Tryz.ntmps254
  go_wp2_with (go_at_call 170;refine (FM _ _ _ _ _ _ _ _ hs b).mono ?_;rintro e a ⟨rfl,rfl⟩)
  go_ret
  exact ⟨rfl,rfl⟩
 have e:hasB ns k=false:=by simp only[hasB,List.any_eq_false];intro n d;simpa using c n d
 rw[e]
 clear e
 go_enter Tryz.func254,Tryz.ntmps254
 go_wp2_with (go_at_call 170;refine (Jd _ _ _ _ _ _ _ hs b c).mono ?_;rintro e a ⟨rfl,rfl⟩)
 go_ret
 exact ⟨rfl,rfl⟩
theorem Wq(x p n:Nat×Nat)(w:World)(F:Ac)
 (hs:Sat (EF p x*EF x n*F) w):
 Calls Tryz.prog 227 #[.pointer (some ⟨x.1,x.2,none⟩)] w fun e m=>e= .returned (.tuple #[])∧
  Sat (EF p n*(Sl.cell x.1 (x.2+3) (pt p)*Sl.cell x.1 (x.2+4) (pt n))*F) m:=by
 obtain ⟨i,j⟩:=x
 obtain ⟨b,g⟩:=p
 obtain ⟨a,d⟩:=n
 simp only[EF,pt] at hs⊢
 have t:=hs.c i (j+3)
 have u:=hs.c i (j+4)
 have v:=hs.c b (g+4)
 have y:=hs.c a (d+3)
 have o:=hs.f b (g+4)
 have q:=hs.f a (d+3)
 have s1:=hs.Et b (g+4) (.pointer (some ⟨a,d,none⟩))
 have s2:=s1.Et a (d+3) (.pointer (some ⟨b,g,none⟩))
 have k:=hs.Et a (d+3) (.pointer (some ⟨b,g,none⟩))
 have l:=k.Et b (g+4) (.pointer (some ⟨a,d,none⟩))
 have r:=s1.c a (d+3)
 have s:=k.c b (g+4)
 go_enter Tryz.func227,Tryz.ntmps227
 go_wp2
 go_region
 all_goals (go_end0;exact ⟨rfl,(Sat.drew (by first|exact s2.eq (by ac_rfl)|exact l.eq (by ac_rfl)))⟩)
theorem PN(L a:Nat)(p:Nat×Nat)(l m:Value)(w:World)(F:Ac)
 (hs:Sat (EF p (L,1)*(Sl.cell a 3 l*Sl.cell a 4 m)*F) w):
 Calls Tryz.prog 228 #[.pointer (some ⟨L,0,none⟩),.pointer (some ⟨a,0,none⟩)] w fun e n=>e= .returned (.tuple #[])∧
  Sat (EF p (a,0)*EF (a,0) (L,1)*F) n:=by
 obtain ⟨b,d⟩:=p
 simp only[EF,pt,Nat.zero_add,Nat.reduceAdd] at hs⊢
 have D:=hs.c L 4
 have G:=hs.c a 3
 have H:=hs.c a 4
 have x:=hs.f a 3
 have y:=hs.f a 4
 have s1:=hs.Et a 3 (.pointer (some ⟨b,d,none⟩))
 have s2:=s1.Et a 4 (.pointer (some ⟨L,1,none⟩))
 have i:=hs.Et a 4 (.pointer (some ⟨L,1,none⟩))
 have g:=i.Et a 3 (.pointer (some ⟨b,d,none⟩))
 have z:=s1.c a 4
 have B:=i.c a 3
 have s3:=s2.Et b (d+4) (.pointer (some ⟨a,0,none⟩))
 have s4:=s3.Et L 4 (.pointer (some ⟨a,0,none⟩))
 have j:=g.Et b (d+4) (.pointer (some ⟨a,0,none⟩))
 have k:=j.Et L 4 (.pointer (some ⟨a,0,none⟩))
 have o:=s2.c a 3
 have q:=s2.c b (d+4)
 have r:=hs.f b (d+4)
 have s:=s3.c L 4
 have t:=hs.f L 4
 have u:=g.c a 3
 have b2:=g.c b (d+4)
 have v:=j.c L 4
 go_enter Tryz.func228,Tryz.ntmps228
 go_wp2
 go_region
 all_goals (go_wp2;go_end0;exact ⟨rfl,(Sat.drew (by first|exact s4.eq (by ac_rfl)|exact k.eq (by ac_rfl)))⟩)
theorem JR(L M:Nat)(cap:Int)(l1:List Nd)(n:Nd)(l2:List Nd): ∃R:Ac,
 (CC TL TI L M cap (l1++n::l2)=EF (before L l1) (n.b,0)*EF (n.b,0) (behind L l2)*(core TL L M cap*(IG M (l1++n::l2)*(R*(items TI l1*(item TI n*items TI l2))))))∧
 (chain (ring L (l1++l2))=EF (before L l1) (behind L l2)*R):=by
 obtain ⟨R,a,c⟩:=X4 L l1 n l2
 refine ⟨R,?_,c⟩
 unfold CC
 rw[a,Dm,items]
 ac_rfl
theorem Pw(L M:Nat)(cap:Int)(l1:List Nd)(n:Nd)(l2:List Nd)(F:Ac)(w:World)(hs:Sat (CC TL TI L M cap (l1++n::l2)*F) w)(m:((l1++n::l2).map (·.key)).Nodup):
 Calls Tryz.prog 191 #[.pointer (some ⟨L,0,none⟩),.int .i64 n.key] w fun e t=>e= .returned (.tuple #[])∧Sat (CC TL TI L M cap (l1++l2)*F) t:=by
 obtain ⟨R,i,l⟩:=JR L M cap l1 n l2
 have d:Sat (core TL L M cap*(IG M (l1++n::l2)*(chain (ring L (l1++n::l2))*items TI (l1++n::l2)))*F) w:=hs
 have u:=d.c L 6
 have hl:=Na (d.take (IG M _)) m
 rw[i,Ar] at hs
 clear d i
 go_enter Tryz.func191,Tryz.ntmps191
 go_wp2_with fail
 refine (Wq (n.b,0) (before L l1) (behind L l2) _ _ hs).mono ?_
 rintro e v ⟨rfl,f⟩
 have s:=f.c L 6
 obtain ⟨ms,o,hp,r,g⟩:=Sat.FV (f.take (IG M (l1++n::l2)))
 obtain ⟨o',j,q⟩:=Gx I3 Tryz.underlying267 g.obj r n.key
 have k:=g.Gy o'
 have a:=Vp hp (JP m) n.key
 rw[SV rfl m] at a
 have p:=(Sat.II a j k)
 clear k g f hs r j hp a
 go_wp2
 go_end0
 refine ⟨rfl,?_⟩
 refine Sat.CR (B:=item TI n*(Sl.cell n.b 3 (pt (before L l1))*Sl.cell n.b 4 (pt (behind L l2)))) (p.eq ?_)
 unfold CC
 rw[l,Dm]
 simp only[Nat.zero_add]
 ac_rfl
def Ik(ns:List Nd):Prop:=(ns.map (·.key)).Nodup
def Ol(ns:List Nd)(k:Int):List Nd:=ns.filter fun n=>n.key !=k
def TG(ns:List Nd)(k:Int):List Nd:=Ol ns k++ns.filter fun n=>n.key==k
def ZZ(f:Nd→Nd)(ns:List Nd)(k:Int):List Nd:=ns.map fun n=>if n.key=k then f n else n
theorem My{l1:List Nd}{n:Nd}{l2:List Nd}(h:Ik (l1++n::l2)):(∀m∈l1,m.key≠n.key)∧ ∀m∈l2,m.key≠n.key:=by
 unfold Ik at h
 simp only[List.map_append,List.map_cons,List.nodup_append,List.nodup_cons,List.mem_cons,List.mem_map] at h
 obtain ⟨_,⟨a,_⟩,b⟩:=h
 exact ⟨fun m hm e=>b m.key ⟨m,hm,rfl⟩ n.key (.inl rfl) e,fun m hm e=>a ⟨m,hm,e⟩⟩
theorem Lr{l:List Nd}{k:Int}(h: ∀m∈l,m.key≠k):(l.filter fun n=>n.key !=k)=l:=List.filter_eq_self.2 fun m hm=>by simpa using h m hm
theorem filter_eq{l:List Nd}{k:Int}(h: ∀m∈l,m.key≠k):(l.filter fun n=>n.key==k)= []:=List.filter_eq_nil_iff.2 fun m hm=>by simpa using h m hm
theorem Hu{l1:List Nd}{n:Nd}{l2:List Nd}(h:Ik (l1++n::l2)):Ol (l1++n::l2) n.key=l1++l2:=by
 obtain ⟨a,b⟩:=My h
 simp[Ol,List.filter_append,Lr a,Lr b]
theorem TH{l1:List Nd}{n:Nd}{l2:List Nd}(h:Ik (l1++n::l2)):TG (l1++n::l2) n.key=l1++l2++ [n]:=by
 obtain ⟨a,b⟩:=My h
 rw[TG,Hu h]
 simp[List.filter_append,filter_eq a,filter_eq b]
theorem UE{f:Nd→Nd}{l1:List Nd}{n:Nd}{l2:List Nd}(h:Ik (l1++n::l2)):ZZ f (l1++n::l2) n.key=l1++f n::l2:=by
 obtain ⟨a,b⟩:=My h
 have e: ∀l:List Nd,(∀m∈l,m.key≠n.key)→(l.map fun m=>if m.key=n.key then f m else m)=l:=by
  intro l hl
  exact (List.map_congr_left (fun m hm=>if_neg (hl m hm))).trans (List.map_id' l)
 simp[ZZ,List.map_append,e _ a,e _ b]
theorem Vy{ns:List Nd}{k:Int}(h: ∀m∈ns,m.key≠k):Ol ns k=ns:=Lr h
theorem VM{ns:List Nd}{k:Int}(h: ∀m∈ns,m.key≠k):TG ns k=ns:=by rw[TG,Vy h,filter_eq h,List.append_nil]
theorem Wg{f:Nd→Nd}{ns:List Nd}{k:Int}(h: ∀m∈ns,m.key≠k):ZZ f ns k=ns:=
 (List.map_congr_left (fun m hm=>if_neg (h m hm))).trans (List.map_id' ns)
theorem MN{l1:List Nd}{n:Nd}{l2:List Nd} :hasB (l1++n::l2) n.key=true:=by simp[hasB]
theorem OL{ns:List Nd}{k:Int}(h: ∀m∈ns,m.key≠k):hasB ns k=false:=by
 simp only[hasB,List.any_eq_false];intro n a;simpa using h n a
theorem WO{ns:List Nd}(h:Ik ns)(k:Int):Ik (Ol ns k):=by
 unfold Ik Ol at*
 exact h.sublist (List.Sublist.map _ List.filter_sublist)
theorem Zf(L M:Nat)(cap:Int)(ns:List Nd)(k:Int)(F:Ac)(w:World)(hs:Sat (CC TL TI L M cap ns*F) w)(l:Ik ns):
 Calls Tryz.prog 180 #[.pointer (some ⟨L,0,none⟩),.int .i64 k] w fun e p=>e= .returned (.bool (hasB ns k))∧Sat (CC TL TI L M cap (TG ns k)*F) p:=by
 rcases Hj ns k with ⟨l1,n,l2,rfl,rfl⟩|m
 ·rw[MN,TH l]
  obtain ⟨R,f,g⟩:=JR L M cap l1 n l2
  obtain ⟨R2,i,j⟩:=LF L (l1++l2)
  have a:=hs
  rw[f,Ar] at a
  go_enter Tryz.func180,Tryz.ntmps180
  go_wp2_with (go_at_call 170;refine (FM _ _ _ _ _ _ _ _ hs l).mono ?_;rintro e p ⟨rfl,rfl⟩)
  refine (Wq (n.b,0) (before L l1) (behind L l2) _ _ a).mono ?_
  rintro e r ⟨rfl,c⟩
  have d:Sat (EF (before L (l1++l2)) (L,1)*(Sl.cell n.b 3 (pt (before L l1))*Sl.cell n.b 4 (pt (behind L l2)))*(R2*(core TL L M cap*(IG M (l1++n::l2)*(items TI l1*(item TI n*items TI l2))*F)))) r:=by
   refine c.eq ?_
   have q:EF (before L l1) (behind L l2)*R=EF (before L (l1++l2)) (L,1)*R2:=g.symm.trans i
   simp only[Nat.zero_add]
   calc _=(EF (before L l1) (behind L l2)*R)*((Sl.cell n.b 3 (pt (before L l1))*Sl.cell n.b 4 (pt (behind L l2)))*(core TL L M cap*(IG M (l1++n::l2)*(items TI l1*(item TI n*items TI l2))*F))):=by ac_rfl
    _=_:=by rw[q];ac_rfl
  clear a c hs
  go_wp2_with fail
  refine (PN L n.b (before L (l1++l2)) _ _ _ _ d).mono ?_
  rintro e s ⟨rfl,o⟩
  clear d
  go_wp2
  go_ret
  refine ⟨rfl,o.eq ?_⟩
  have hp:(l1++n::l2).Perm (l1++l2++ [n]):=by
   rw[List.append_assoc];exact List.Perm.append_left l1 (List.perm_append_singleton n l2).symm
  unfold CC
  rw[j,Xr hp,←SI hp,Dm,items]
  ac_rfl
 rw[OL m,VM m]
 go_enter Tryz.func180,Tryz.ntmps180
 go_wp2_with (go_at_call 170;refine (Jd _ _ _ _ _ _ _ hs l m).mono ?_;rintro e p ⟨rfl,rfl⟩)
 go_ret
 exact ⟨rfl,hs⟩
theorem Nc(L M:Nat)(cap:Int)(l1:List Nd)(n:Nd)(l2:List Nd)(F:Ac):
 CC TL TI L M cap (l1++n::l2)*F=item TI n*(core TL L M cap*(IG M (l1++n::l2)*(chain (ring L (l1++n::l2))*(items TI l1*items TI l2)))*F):=by
 unfold CC
 rw[Dm,items]
 ac_rfl
theorem QQ(L M:Nat)(cap:Int)(l1:List Nd)(n n':Nd)(l2:List Nd)(F:Ac)(hb:n'.b=n.b)(d:n'.key=n.key):
 item TI n'*(core TL L M cap*(IG M (l1++n::l2)*(chain (ring L (l1++n::l2))*(items TI l1*items TI l2)))*F)=CC TL TI L M cap (l1++n'::l2)*F:=by
 rw[Nc]
 have a:IG M (l1++n::l2)=IG M (l1++n'::l2):=by
  have:(l1++n::l2).map kv=(l1++n'::l2).map kv:=by simp[kv,hb,d]
  unfold IG;rw[this]
 have c:ring L (l1++n::l2)=ring L (l1++n'::l2):=by simp[ring,hb]
 rw[a,c]
theorem WZ(L M:Nat)(cap:Int)(ns:List Nd)(k:Int)(d:Bool)(F:Ac)(w:World)(hs:Sat (CC TL TI L M cap ns*F) w)(g:Ik ns):
 Calls Tryz.prog 148 #[.pointer (some ⟨L,0,none⟩),.int .i64 k,.bool d] w fun e j=>e= .returned (.bool (hasB ns k))∧Sat (CC TL TI L M cap (ZZ (fun n=> { n with Hr:=d }) ns k)*F) j:=by
 rcases Hj ns k with ⟨l1,n,l2,rfl,rfl⟩|i
 ·rw[MN,UE g]
  have a:=hs
  rw[Nc] at a
  unfold item at a
  have l:=a.c n.b 2
  have m:=a.f n.b 2
  have s1:=a.Et n.b 2 (.bool d)
  have s2:Sat (CC TL TI L M cap (l1++ { n with Hr:=d } ::l2)*F) (w.setCell ⟨n.b,2,none⟩ (.bool d)):=by
   refine s1.eq ?_
   rw[←QQ L M cap l1 n { n with Hr:=d } l2 F rfl rfl]
   rfl
  clear a s1
  go_enter Tryz.func148,Tryz.ntmps148
  go_wp2_with (go_at_call 170;refine (FM _ _ _ _ _ _ _ _ hs g).mono ?_;rintro e j ⟨rfl,rfl⟩)
  go_ret
  exact ⟨rfl,s2⟩
 rw[OL i,Wg i]
 go_enter Tryz.func148,Tryz.ntmps148
 go_wp2_with (go_at_call 170;refine (Jd _ _ _ _ _ _ _ hs g i).mono ?_;rintro e j ⟨rfl,rfl⟩)
 go_ret
 exact ⟨rfl,hs⟩
theorem Wy(L M:Nat)(cap:Int)(ns:List Nd)(k:Int)(F:Ac)(w:World)(hs:Sat (CC TL TI L M cap ns*F) w)(g:Ik ns)(hb: ∀n∈ns,0≤n.pins):
 Calls Tryz.prog 164 #[.pointer (some ⟨L,0,none⟩),.int .i64 k] w fun e o=>e= .returned (.bool (ns.any fun n=>n.key==k&&n.pins==0))∧
  Sat (CC TL TI L M cap (if (ns.any fun n=>n.key==k&&n.pins==0) then Ol ns k else ns)*F) o:=by
 rcases Hj ns k with ⟨l1,n,l2,rfl,rfl⟩|r
 · have t:=hb n (by simp)
   obtain ⟨i,j⟩:=My g
   have a:((l1++n::l2).any fun m=>m.key==n.key&&m.pins==0)=(n.pins==0):=by
    have e: ∀l:List Nd,(∀m∈l,m.key≠n.key)→(l.any fun m=>m.key==n.key&&m.pins==0)=false:=by
     intro l hl
     simp only[List.any_eq_false]
     intro m hm
     have:=hl m hm
     simp[this]
    simp[List.any_append,e _ i,e _ j]
   rw[a]
   have d:=hs
   rw[Nc] at d
   unfold item at d
   have s:=d.c n.b 1
   clear a i j d hb
   by_cases hp:n.pins=0
   · have p: ¬(0<n.pins):=by omega
     have f:(n.pins==0)=true:=by simpa using hp
     rw[f,if_pos rfl,Hu g]
     clear hp
     go_enter Tryz.func164,Tryz.ntmps164
     go_wp2_with (first|(go_at_call 170;refine (FM _ _ _ _ _ _ _ _ hs g).mono ?_;rintro e o ⟨rfl,rfl⟩)|(go_at_call 191;refine (Pw _ _ _ _ _ _ _ _ hs g).mono ?_;rintro e u ⟨rfl,q⟩))
     go_ret
     exact ⟨rfl,q⟩
   have p:0<n.pins:=by omega
   have f:(n.pins==0)=false:=by simpa using hp
   rw[f,if_neg (by simp)]
   clear hp
   go_enter Tryz.func164,Tryz.ntmps164
   go_wp2_with (go_at_call 170;refine (FM _ _ _ _ _ _ _ _ hs g).mono ?_;rintro e o ⟨rfl,rfl⟩)
   go_ret
   exact ⟨rfl,hs⟩
 have a:(ns.any fun m=>m.key==k&&m.pins==0)=false:=by
  simp only[List.any_eq_false]
  intro m hm
  have:=r m hm
  simp[this]
 rw[a,if_neg (by simp)]
 clear hb a
 go_enter Tryz.func164,Tryz.ntmps164
 go_wp2_with (go_at_call 170;refine (Jd _ _ _ _ _ _ _ hs g r).mono ?_;rintro e o ⟨rfl,rfl⟩)
 go_ret
 exact ⟨rfl,hs⟩
def L9(ns:List Nd):Option Nd:=ns.find? fun n=>n.pins==0
def Vx(ns:List Nd):Int:=((L9 ns).map (·.key)).getD 0
def PZ(ns:List Nd):Bool:=(L9 ns).isSome
theorem XC:(Tryz.prog.info? 266).map (·.size)=some (4+1):=by kernel_rfl
theorem Vi{L M:Nat}{cap:Int}{l1:List Nd}{n:Nd}{l2:List Nd}{F:Ac}{w:World}(hs:Sat (CC TL TI L M cap (l1++n::l2)*F) w):
 w.cell? ⟨n.b,0,none⟩=some (.int .i64 n.key)∧w.cell? ⟨n.b,1,none⟩=some (.int .i64 n.pins)∧w.cell? ⟨n.b,4,none⟩=some (pt (behind L l2))∧
 (binOp .neq 264 (.pointer (some ⟨n.b,0,none⟩)) (.pointer (some ⟨L,1,none⟩))).run Tryz.prog w= .ok (.bool true) w:=by
 obtain ⟨R,d,_⟩:=JR L M cap l1 n l2
 rw[d] at hs
 unfold EF item at hs
 simp only[Nat.zero_add] at hs
 have r1:=hs.row n.b 0
 have e:=hs.row L 0
 refine ⟨hs.c n.b 0,hs.c n.b 1,hs.c n.b 4,?_⟩
 rw[Mb Tryz.underlying264 XC r1 e]
 have a:(⟨n.b,0,none⟩:Addr)≠⟨L,1,none⟩:=by simp
 rw[beq_false_of_ne a]
 rfl
theorem Vh{L M:Nat}{cap:Int}{ns:List Nd}{F:Ac}{w:World}(hs:Sat (CC TL TI L M cap ns*F) w):
 w.cell? ⟨L,5,none⟩=some (pt (behind L ns))∧
 (binOp .neq 264 (.pointer (some ⟨L,1,none⟩)) (.pointer (some ⟨L,1,none⟩))).run Tryz.prog w= .ok (.bool false) w:=by
 obtain ⟨R,b⟩:=Tu L ns
 unfold CC at hs
 rw[b] at hs
 unfold EF at hs
 simp only[Nat.reduceAdd] at hs
 have a:=hs.row L 0
 refine ⟨hs.c L 5,?_⟩
 rw[Mb Tryz.underlying264 XC a a]
 simp
theorem JU(L M:Nat)(cap:Int)(ns:List Nd)(F:Ac)(w:World)(hs:Sat (CC TL TI L M cap ns*F) w):
 Calls Tryz.prog 252 #[.pointer (some ⟨L,0,none⟩)] w fun e q=>e= .returned (.tuple #[.int .i64 (Vx ns),.bool (PZ ns)])∧w=q:=by
 obtain ⟨f,p⟩:=Vh hs
 unfold pt at f
 go_enter Tryz.func252,Tryz.ntmps252
 go_wp2
 go_loopg [4] ns.length (fun k x wr=> ∃l1 l2,Aside (ns=l1++l2∧(∀m∈l1,m.pins≠0)∧k=l2.length)∧x=pt (behind L l2)∧w=wr)
 case atStart=>exact ⟨[],ns,⟨rfl,by simp,rfl⟩,rfl,rfl⟩
 obtain ⟨l1,l2,A,rfl,rfl⟩:=hrel
 clear f
 cases l2 with
 | nil =>
  have e0:pt (behind L [])= .pointer (some ⟨L,1,none⟩):=rfl
  rw[e0]
  clear e0
  go_wp2
  go_ret2
  obtain ⟨rfl,h,_⟩:=A.out
  have e:L9 (l1++ [])=none:=by
   unfold L9
   rw[List.find?_eq_none]
   intro m hm
   simpa using h m (by simpa using hm)
  refine ⟨?_,rfl⟩
  unfold Vx PZ
  rw[e];rfl
 | cons n l2 =>
  have e0:pt (behind L (n::l2))= .pointer (some ⟨n.b,0,none⟩):=rfl
  rw[e0]
  clear e0
  have i:=A.out
  obtain ⟨a,h,g⟩:=i
  rw[a] at hs
  obtain ⟨r,s,l,o⟩:=Vi hs
  unfold pt at l
  have H:Aside (ns=l1++n::l2):=a
  have j:Aside (gk=(n::l2).length):=g
  clear a hs A g
  by_cases hp:n.pins=0
  · have d:(n.pins==0)=true:=by simpa using hp
    have c:Aside (n.pins=0):=hp
    clear hp
    go_wp2
    go_ret2
    have e:L9 ns=some n:=by
     rw[H.out,L9,List.find?_append]
     have:l1.find? (fun n=>n.pins==0)=none:=by
      rw[List.find?_eq_none]
      intro m hm
      simpa using h m hm
     rw[this]
     simp[c.out]
    refine ⟨?_,rfl⟩
    unfold Vx PZ
    rw[e];rfl
  have d:(n.pins==0)=false:=by simpa using hp
  have c:Aside (n.pins≠0):=hp
  clear hp
  go_wp2
  go_roundg l2.length
  case measure=>have:=j.out;simp at this;omega
  exact ⟨l1++ [n],l2,⟨by rw[H.out];simp,fun m hm=>by rcases List.mem_append.1 hm with hm|hm;exact h m hm;simp at hm;subst hm;exact c.out,rfl⟩,rfl,rfl⟩
theorem YD(cap:Int)(F:Ac)(w:World)(hs:Sat F w)(g:1≤cap)(i:cap≤4096):
 Calls Tryz.prog 112 #[.int .i64 cap] w fun e f=> ∃L M,e= .returned (.tuple #[.pointer (some ⟨L,0,none⟩),.int .i64 0])∧Sat (CC TL TI L M cap []*F) f:=by
 have d:= @run_makeMap Tryz.prog
 go_enter Tryz.func112,Tryz.ntmps112
 go_wp2
 go_region
 all_goals
  go_wp2
  go_ret2
  refine ⟨w.heap.size+1,w.heap.size,rfl,Sat.drew ?_⟩
  have b:=hs.CH (.map #[] 0)
  have a:=b.alloc #[.int .i64 cap,.int .i64 0,.int .i64 0,.bool false,.pointer (some ⟨w.heap.size+1,1,none⟩),.pointer (some ⟨w.heap.size+1,1,none⟩),.map (some w.heap.size)] TL
  have e:(w.alloc (.map #[] 0)).heap.size=w.heap.size+1:=by simp
  rw[e] at a
  have c:=Sat.II (ns:= []) (ms:= []) (M:=w.heap.size) (o:= .map #[] 0) .nil ⟨#[],0,rfl,rfl,by simp,by simp⟩ (a.take (raw w.heap.size _))
  refine c.eq ?_
  simp only[CC,core,block,cells,ring,chain,EF,pt,items,List.length_cons,List.length_nil,List.map_nil,List.nil_append,Bd,Nat.reduceAdd,Nat.zero_add]
  ac_rfl
theorem Yl(L M:Nat)(cap:Int)(ns:List Nd)(k:Int)(F:Ac)(w:World)(hs:Sat (CC TL TI L M cap ns*F) w)(b:Ik ns)(c:hasB ns k=true):
 Calls Tryz.prog 230 #[.pointer (some ⟨L,0,none⟩),.int .i64 k] w fun e d=>e= .returned (.tuple #[.int .i64 0,.bool false,.int .i64 1])∧w=d:=by
 have a:=Mw L M cap ns k F w hs b
 rw[c] at a
 clear c hs b
 go_enter Tryz.func230,Tryz.ntmps230
 go_wp2_with (go_at_call 254;refine a.mono ?_;rintro e d ⟨rfl,rfl⟩)
 go_ret3
 exact ⟨rfl,rfl⟩
theorem PT{L M:Nat}{cap:Int}{ns:List Nd}{F:Ac}{w:World}(hs:Sat (CC TL TI L M cap ns*F) w)(a:TypeId):
 (Builtin.len_ #[TM] a #[.map (some M)]).run Tryz.prog w= .ok (.int .i64 ns.length) w:=by
 unfold CC at hs
 obtain ⟨ms,o,hp,b,hs⟩:=Sat.FV (hs.take (IG M ns))
 have:=Kc (kf:=AZ) Tryz.underlying267 hs.obj b a
 rw[hp.length_eq,List.length_map] at this
 exact this
theorem Wf(L M:Nat)(cap:Int)(ns:List Nd)(k:Int)(F:Ac)(w:World)(hs:Sat (CC TL TI L M cap ns*F) w)(H:Ik ns)(z:hasB ns k=false)(hl:((ns.length:Int)==cap)=false):
 Calls Tryz.prog 230 #[.pointer (some ⟨L,0,none⟩),.int .i64 k] w fun e J=> ∃b,e= .returned (.tuple #[.int .i64 0,.bool false,.int .i64 0])∧Sat (CC TL TI L M cap (ns++ [⟨b,k,0,false⟩])*F) J:=by
 have y:=Mw L M cap ns k F w hs H
 rw[z] at y
 have O:=(show Sat (core TL L M cap*(IG M ns*(chain (ring L ns)*items TI ns))*F) w from hs).c L 0
 have t:=(show Sat (core TL L M cap*(IG M ns*(chain (ring L ns)*items TI ns))*F) w from hs).c L 6
 have j:=fun n P=>PT (hs.drewN n) P
 have K:Aside (hasB ns k=false):=z
 clear z
 go_enter Tryz.func230,Tryz.ntmps230
 go_wp2_with (go_at_call 254;refine y.mono ?_;rintro e J ⟨rfl,rfl⟩)
 go_quiet (fail)
 have d:=hs.drewN nq
 clear j O t y
 generalize w.drewN nq=w0 at d⊢
 clear hs
 have f:Sat (core TL L M cap*(IG M ns*(chain (ring L ns)*items TI ns))*F) w0:=d
 have g:=f.alloc #[.int .i64 k,.int .i64 0,.bool false,.pointer none,.pointer none] TI
 have t:=f.c L 6
 have u:=g.c L 6
 obtain ⟨ms,o,hp,I,i⟩:=Sat.FV (g.take (IG M ns))
 obtain ⟨o',p,G⟩:=Ch I3 Tryz.underlying267 i.obj I k (.pointer (some ⟨w0.heap.size,0,none⟩))
 have q:=i.Gy o'
 have l: ∀m∈ns,m.key≠k:=by
  have:=K.out
  simp only[hasB,List.any_eq_false] at this
  intro m hm
  simpa using this m hm
 have a:=Pd hp H (n:=⟨w0.heap.size,k,0,false⟩) l
 have r:=Sat.II a p q
 obtain ⟨R2,v,x⟩:=LF L ns
 have s:=r.eq (B:=EF (before L ns) (L,1)*(Sl.cell w0.heap.size 3 (.pointer none)*Sl.cell w0.heap.size 4 (.pointer none))*
  (R2*(core TL L M cap*(IG M (ns++ [⟨w0.heap.size,k,0,false⟩])*(items TI ns*item TI ⟨w0.heap.size,k,0,false⟩)))*F)) (by
  rw[v]
  simp only[block,cells,item,List.length_cons,List.length_nil,Bd,Nat.reduceAdd,Nat.zero_add]
  ac_rfl)
 clear r q i g f d a l hp I p
 go_wp2_with fail
 refine (PN L w0.heap.size (before L ns) _ _ _ _ s).mono ?_
 rintro e Q ⟨rfl,D⟩
 clear s G t u
 go_wp2
 go_ret3
 refine ⟨w0.heap.size,rfl,D.eq ?_⟩
 unfold CC
 rw[x,Dm]
 simp only[items,Bd]
 ac_rfl
theorem UD(L M:Nat)(cap:Int)(ns:List Nd)(k:Int)(F:Ac)(w:World)(hs:Sat (CC TL TI L M cap ns*F) w)(o:Ik ns)(g:hasB ns k=false)(hl:((ns.length:Int)==cap)=true)(j:PZ ns=false):
 Calls Tryz.prog 230 #[.pointer (some ⟨L,0,none⟩),.int .i64 k] w fun e i=>e= .returned (.tuple #[.int .i64 0,.bool false,.int .i64 9])∧Sat (CC TL TI L M cap ns*F) i:=by
 have f:=Mw L M cap ns k F w hs o
 rw[g] at f
 have l:=(show Sat (core TL L M cap*(IG M ns*(chain (ring L ns)*items TI ns))*F) w from hs).c L 0
 have m:=(show Sat (core TL L M cap*(IG M ns*(chain (ring L ns)*items TI ns))*F) w from hs).c L 6
 have b:=fun n p=>PT (hs.drewN n) p
 have q:Aside (hasB ns k=false):=g
 clear g
 go_enter Tryz.func230,Tryz.ntmps230
 go_wp2_with (go_at_call 254;refine f.mono ?_;rintro e i ⟨rfl,rfl⟩)
 go_quiet (fail)
 have d:=hs.drewN nq
 have a:=JU L M cap ns F _ d
 rw[j] at a
 clear b l m f j
 go_wp2_with (go_at_call 252;refine a.mono ?_;rintro e i ⟨rfl,rfl⟩)
 go_ret3
 exact ⟨rfl,d⟩
theorem We(L M:Nat)(cap:Int)(ns:List Nd)(k:Int)(F:Ac)(w:World)(hs:Sat (CC TL TI L M cap ns*F) w)(G:Ik ns)(R:hasB ns k=false)(hl:((ns.length:Int)==cap)=true)(l1:List Nd)(n:Nd)(l2:List Nd)(t:ns=l1++n::l2)(u:L9 ns=some n):
 Calls Tryz.prog 230 #[.pointer (some ⟨L,0,none⟩),.int .i64 k] w fun e W=> ∃b,e= .returned (.tuple #[.int .i64 n.key,.bool true,.int .i64 0])∧Sat (CC TL TI L M cap (l1++l2++ [⟨b,k,0,false⟩])*F) W:=by
 have P:=Mw L M cap ns k F w hs G
 rw[R] at P
 have h0:=(show Sat (core TL L M cap*(IG M ns*(chain (ring L ns)*items TI ns))*F) w from hs).c L 0
 have I:=(show Sat (core TL L M cap*(IG M ns*(chain (ring L ns)*items TI ns))*F) w from hs).c L 6
 have r:=fun n ty=>PT (hs.drewN n) ty
 have X:Aside (hasB ns k=false):=R
 have q:Aside (ns=l1++n::l2):=t
 have H:Aside (L9 ns=some n):=u
 clear t u
 clear R
 go_enter Tryz.func230,Tryz.ntmps230
 go_wp2_with (go_at_call 254;refine P.mono ?_;rintro e W ⟨rfl,rfl⟩)
 go_quiet (fail)
 have f:=hs.drewN nq
 have a:=JU L M cap ns F _ f
 have Y:Vx ns=n.key:=by unfold Vx;rw[H.out];rfl
 have Z:PZ ns=true:=by unfold PZ;rw[H.out];rfl
 rw[Y,Z] at a
 clear Y Z
 clear r h0 I P
 generalize w.drewN nq=wq at f a⊢
 clear hs
 have i:=Pw L M cap l1 n l2 F wq (q.out▸f) (q.out▸G)
 go_wp2_with (first|(go_at_call 252;refine a.mono ?_;rintro e W ⟨rfl,rfl⟩)|(go_at_call 191;fail))
 refine i.mono ?_
 rintro e g ⟨rfl,x⟩
 clear i a f
 have Q:Ik (l1++l2):=by
  have:=G
  rw[q.out] at this
  rw[←Hu this]
  exact WO this _
 have s: ∀m∈l1++l2,m.key≠k:=by
  have:=X.out
  rw[q.out] at this
  simp only[hasB,List.any_eq_false] at this
  intro m hm
  have T:m∈l1++n::l2:=by simp only[List.mem_append,List.mem_cons] at hm⊢;rcases hm with h|h<;>simp[h]
  simpa using this m T
 clear G hl X H q
 have j:Sat (core TL L M cap*(IG M (l1++l2)*(chain (ring L (l1++l2))*items TI (l1++l2)))*F) g:=x
 have l:=j.alloc #[.int .i64 k,.int .i64 0,.bool false,.pointer none,.pointer none] TI
 have I:=j.c L 6
 have J:=l.c L 6
 obtain ⟨ms,o,hp,u,p⟩:=Sat.FV (l.take (IG M (l1++l2)))
 obtain ⟨o',v,V⟩:=Ch I3 Tryz.underlying267 p.obj u k (.pointer (some ⟨g.heap.size,0,none⟩))
 have y:=p.Gy o'
 have d:=Pd hp Q (n:=⟨g.heap.size,k,0,false⟩) s
 have z:=Sat.II d v y
 obtain ⟨R2,K,O⟩:=LF L (l1++l2)
 have D:=z.eq (B:=EF (before L (l1++l2)) (L,1)*(Sl.cell g.heap.size 3 (.pointer none)*Sl.cell g.heap.size 4 (.pointer none))*
  (R2*(core TL L M cap*(IG M ((l1++l2)++ [⟨g.heap.size,k,0,false⟩])*(items TI (l1++l2)*item TI ⟨g.heap.size,k,0,false⟩)))*F)) (by
  rw[K]
  simp only[block,cells,item,List.length_cons,List.length_nil,Bd,Nat.reduceAdd,Nat.zero_add]
  ac_rfl)
 clear z y p l j d s hp u v
 go_wp2_with fail
 refine (PN L g.heap.size (before L (l1++l2)) _ _ _ _ D).mono ?_
 rintro e w2 ⟨rfl,U⟩
 clear D V I J
 go_wp2
 go_ret3
 refine ⟨g.heap.size,rfl,U.eq ?_⟩
 unfold CC
 rw[O]
 simp only[Dm,items,Bd]
 ac_rfl
theorem Ys: ∃i,CF Tryz.prog 45 3 1 8 i (.int .i64 0):=JG Tryz.underlying45 (by kernel_rfl) rfl (by omega)
def E'(cap:Int)(ns:List Nd)(k g:Int)(h:Bool)(c:Int)(a:List Nd):Prop:=
 (hasB ns k=true∧g=0∧h=false∧c=1∧a=ns)∨
 (hasB ns k=false∧(ns.length:Int)≠cap∧g=0∧h=false∧c=0∧ ∃b,a=ns++ [⟨b,k,0,false⟩])∨
 (hasB ns k=false∧(ns.length:Int)=cap∧L9 ns=none∧g=0∧h=false∧c=9∧a=ns)∨
 (hasB ns k=false∧(ns.length:Int)=cap∧ ∃n,L9 ns=some n∧g=n.key∧h=true∧c=0∧ ∃b,a=Ol ns n.key++ [⟨b,k,0,false⟩])
def Yc(L M:Nat)(cap:Int)(ns:List Nd)(k:Int)(F:Ac)(e:Ending)(b:World):Prop:=
 ∃g h c a,e= .returned (.tuple #[.int .i64 g,.bool h,.int .i64 c])∧E' cap ns k g h c a∧Sat (CC TL TI L M cap a*F) b
theorem Yk(L M:Nat)(cap:Int)(ns:List Nd)(k:Int)(F:Ac)(w:World)(hs:Sat (CC TL TI L M cap ns*F) w)(f:Ik ns):
 Calls Tryz.prog 230 #[.pointer (some ⟨L,0,none⟩),.int .i64 k] w (Yc L M cap ns k F):=by
 cases a:hasB ns k with
 |true=>exact (Yl L M cap ns k F w hs f a).mono fun e j ⟨c,d⟩=>⟨0,false,1,ns,c,.inl ⟨a,rfl,rfl,rfl,rfl⟩,d▸hs⟩
 | false =>
  cases hl:((ns.length:Int)==cap) with
  | false =>
   refine (Wf L M cap ns k F w hs f a hl).mono fun e j ⟨b,c,d⟩=>⟨0,false,0,_,c,.inr (.inl ⟨a,by simpa using hl,rfl,rfl,rfl,b,rfl⟩),d⟩
  | true =>
   cases i:L9 ns with
   | none =>
    have hb:PZ ns=false:=by unfold PZ;rw[i];rfl
    exact (UD L M cap ns k F w hs f a hl hb).mono fun e j ⟨c,d⟩=>⟨0,false,9,ns,c,.inr (.inr (.inl ⟨a,by simpa using hl,i,rfl,rfl,rfl,rfl⟩)),d⟩
   | some n =>
    obtain ⟨l1,l2,g⟩:=List.append_of_mem (List.mem_of_find?_eq_some i)
    refine (We L M cap ns k F w hs f a hl l1 n l2 g i).mono fun e j ⟨b,c,d⟩=>⟨n.key,true,0,_,c,.inr (.inr (.inr ⟨a,by simpa using hl,n,i,rfl,rfl,rfl,b,?_⟩)),d⟩
    rw[g] at f⊢
    rw[Hu f]
