/- treeShape holds for every input. No condition. (part 15) -/
import Derived.Test.YtfhbmblbidcmmaaGreatSk12
set_option linter.all false
namespace Go.Proofs.YtfhbmblbidcmmaaGreat
open Go.Dk
theorem Qu{k:Int}{l:Sa} :(BK k l).isSome=true↔k∈l.map (·.1):=by induction l with
 |nil=>simp[BK]
 | cons p l a =>
  unfold BK
  grind
theorem Jl{k:Int}{b:List UInt8}{l:Sa}(h:BK k l=some b):(k,b)∈l:=by induction l with
 |nil=>simp[BK] at h
 |cons p l a=>grind [BK]
theorem CU(k j:Int)(b:List UInt8)(l:Sa):BK j (DL k b l)=if j=k then some b else BK j l:=by induction l with
 |nil=>simp[DL,BK]
 | cons p l a =>
  unfold DL
  by_cases h:k=p.1
  ·rw[if_pos h]
   unfold BK
   simp_all
  rw[if_neg h]
  show (if j=p.1 then some p.2 else BK j (DL k b l))=if j=k then some b else if j=p.1 then some p.2 else BK j l
  grind
theorem Mb(k:Int)(b:List UInt8)(l:Sa):(DL k b l).map (·.1)=if (BK k l).isSome then l.map (·.1) else l.map (·.1)++ [k]:=by induction l with
 |nil=>simp[DL,BK]
 | cons p l a =>
  unfold DL BK
  grind
theorem Lt(k:Int)(l:Sa):(Gd k l).Sublist l:=by induction l with
 |nil=>exact List.Sublist.slnil
 |cons p l a=>grind [Gd]
theorem FP{k:Int}{l:Sa}(c:(l.map (·.1)).Nodup)(j:Int):BK j (Gd k l)=if j=k then none else BK j l:=by induction l with
 |nil=>simp[Gd,BK]
 | cons p l e =>
  rw[List.map_cons,List.nodup_cons] at c
  unfold Gd
  by_cases h:k=p.1
  ·rw[if_pos h]
   by_cases a:j=k
   ·rw[if_pos a]
    cases d:BK j l with
    |none=>rfl
    |some b=>exact absurd (Qu.1 (by rw[d];rfl)) (by rw[a,h];exact c.1)
   rw[if_neg a]
   show _=if j=p.1 then some p.2 else BK j l
   simp_all
  rw[if_neg h]
  show (if j=p.1 then some p.2 else BK j (Gd k l))=if j=k then none else if j=p.1 then some p.2 else BK j l
  grind
theorem T1{k:Int}{l:Sa}(h:(BK k l).isSome=true):(Gd k l).length+1=l.length:=by induction l with
 |nil=>simp[BK] at h
 |cons p l a=>grind [BK,Gd,List.length_cons]
theorem T4{k:Int}{b:List UInt8}{l:Sa} :(DL k b l).length=if (BK k l).isSome then l.length else l.length+1:=by
 have:=congrArg List.length (Mb k b l)
 grind
theorem Qh(its:List It)(k:Int)(a:Bool):Du (Bm its k a)=Du its:=by
 unfold Du Bm Sf
 rw[List.map_map]
 apply List.map_congr_left
 grind
theorem Bj{its:List It}{k:Int} :Bo its k=true↔k∈Du its:=by simp[Bo,Du,List.any_eq_true,List.mem_map]
theorem PU{a b:List It}(h: ∀k,k∈Du a↔k∈Du b)(k:Int):Bo a k=Bo b k:=by rw[Bool.eq_iff_iff,Bj,Bj];exact h k
theorem NR(its:List It)(k j:Int)(a:Bool):Bo (Bm its k a) j=Bo its j:=PU (fun _=>by rw[Qh]) j
theorem Ld(its:List It)(k:Int)(a:Bool):(Bm its k a).length=its.length:=by simp[Bm,Sf]
theorem XG{its:List It}{k:Int}{b:Bool}(h: ∀n∈its,0≤n.pins): ∀n∈Bm its k b,0≤n.pins:=by
 intro n a
 unfold Bm Sf at a
 grind
theorem H0(its:List It)(k j:Int)(a:Bool):D1 (Bm its k a) j=D1 its j:=by
 unfold D1 Bm Sf
 rw[List.any_map]
 grind
theorem aJ{its:List It}(h:Ei its)(k:Int)(a:Bool):Ei (Bm its k a):=
 ⟨by rw[Qh];exact h.nd,XG h.pins,by rw[Ld];exact h.len⟩
theorem O2(its:List It)(k:Int):Du (Gc its k)=(Du its).filter (fun j=>j !=k):=by
 unfold Du Gc
 rw[List.filter_map];rfl
theorem Lp{its:List It}{k j:Int} :j∈Du (Gc its k)↔j∈Du its∧j≠k:=by rw[O2,List.mem_filter];simp
theorem Z7{its:List It}(h:Ei its)(k:Int):Ei (Gc its k):=
 ⟨by rw[O2];exact h.nd.sublist List.filter_sublist,fun n a=>h.pins n (List.mem_filter.1 a).1,Nat.le_trans (List.length_filter_le _ _) h.len⟩
theorem filter_one{l:List Int}(b:l.Nodup){k:Int}(c:k∈l):(l.filter (fun j=>j !=k)).length+1=l.length:=by induction l with
 |nil=>simp at c
 | cons a l d =>
  rw[List.nodup_cons] at b
  by_cases h:a=k
  ·subst h
   have:l.filter (fun j=>j !=a)=l:=List.filter_eq_self.2 fun x hx=>by simp;intro e;subst e;exact b.1 hx
   simp_all
  grind
theorem WE{its:List It}(h:Ei its){k:Int}(c:Bo its k=true):(Gc its k).length+1=its.length:=by
 have a:(Gc its k).length=(Du (Gc its k)).length:=by simp[Du]
 have b:its.length=(Du its).length:=by simp[Du]
 rw[a,O2,b]
 exact filter_one h.nd (Bj.1 c)
theorem WX{its:List It}{k j:Int} :j∈Du (EK its k)↔j∈Du its:=by
 unfold Du EK Gc
 simp only[List.map_append,List.mem_append,List.mem_map,List.mem_filter]
 grind
theorem BL(its:List It)(k:Int):(EK its k).Perm its:=by
 unfold EK Gc
 have h:=List.filter_append_perm (fun n:It=>n.key !=k) its
 grind
theorem Z8{its:List It}(h:Ei its)(k:Int):Ei (EK its k):=
 ⟨((BL its k).map _).nodup_iff.2 h.nd,fun n a=>h.pins n ((BL its k).mem_iff.1 a),by rw[(BL its k).length_eq];exact h.len⟩
theorem WC{its:List It}{n:It}(h:MQ its=some n):n∈its∧n.pins=0:=⟨List.mem_of_find?_eq_some h,by have:=List.find?_some h;simpa using this⟩
theorem Ln{its:List It}{n:It}(h:MQ its=some n):D1 its n.key=true:=by
 obtain ⟨h1,a⟩:=WC h
 unfold D1
 grind
theorem Ej{its:List It}{k:Int}(h:D1 its k=true):Bo its k=true:=by
 unfold D1 at h
 rw[List.any_eq_true] at h
 obtain ⟨n,h1,a⟩:=h
 rw[Bj]
 exact List.mem_map.2 ⟨n,h1,by simp at a;exact a.1⟩
def U:Nat:=268436480
theorem Bf.key{m:Nat}{s:Ck}(ok:Bf m s){k:Int}(h:Bo s.its k=true): ∃b,BK k s.CO=some b∧b.length=256∧0≤k∧k<1048576:=by
 rw[ok.same] at h
 obtain ⟨b,hb⟩:=Option.isSome_iff_exists.1 h
 have:=ok.As _ (Jl hb)
 simp_all
theorem Bf.more{m m':Nat}{s:Ck}(ok:Bf m s)(h:m≤m'):Bf m' s:=⟨ok.LC,ok.nd,ok.same,ok.len,ok.As,ok.cap,ok.most,Et ok.dk h,ok.nm,by have:=ok.reads;omega⟩
theorem Bf.n7{m m':Nat}{s:Ck}(ok:Bf m s){d:Dk}(h:m≤m')(a:Ok m' d):Bf m' { s with d:=d } :=⟨ok.LC,ok.nd,ok.same,ok.len,ok.As,ok.cap,ok.most,a,ok.nm,by have:=ok.reads;show 0≤s.reads∧s.reads≤m';omega⟩
theorem Bf.mark{m:Nat}{s:Ck}(ok:Bf m s)(k:Int)(a:Bool):Bf m { s with its:=Bm s.its k a } :=
 ⟨aJ ok.LC k a,ok.nd,fun j=>by show Bo (Bm s.its k a) j=_;rw[NR];exact ok.same j,by show _=(Bm s.its k a).length;rw[Ld];exact ok.len,ok.As,ok.cap,by show ((Bm s.its k a).length:Int)≤_;rw[Ld];exact ok.most,ok.dk,ok.nm,ok.reads⟩
theorem QH{m:Nat}{s:Ck}(ok:Bf m s){no:Int}(h:Bo s.its no=true):Bf (m+257) (s.Bw no).2:=by
 obtain ⟨b,hb,hl,_,_⟩:=ok.key h
 have e:s.As no=b:=by unfold Ck.As;rw[hb];rfl
 have hw:=O1 ok.dk s.nm (no*256) (s.As no)
 rw[e,hl] at hw
 unfold Ck.Bw
 rw[e]
 split
 ·exact Bf.mark (ok.n7 (m':=m+257) (by omega) (Et hw (by omega))) no false
 exact ok.n7 (by omega) (Et hw (by omega))
theorem BX(s:Ck)(no:Int):(s.write no).2.nm=s.nm∧(s.write no).2.cap=s.cap∧(s.write no).2.reads=s.reads∧(s.write no).2.CO=s.CO∧((s.write no).2.its=s.its∨(s.write no).2.its=Bm s.its no false):=by
 have a: ∀s:Ck,(s.Bw no).2.nm=s.nm∧(s.Bw no).2.cap=s.cap∧(s.Bw no).2.reads=s.reads∧(s.Bw no).2.CO=s.CO∧((s.Bw no).2.its=s.its∨(s.Bw no).2.its=Bm s.its no false):=by
  intro s
  unfold Ck.Bw
  split
  · exact ⟨rfl,rfl,rfl,rfl,.inr rfl⟩
  exact ⟨rfl,rfl,rfl,rfl,.inl rfl⟩
 unfold Ck.write
 split
 · exact ⟨rfl,rfl,rfl,rfl,.inl rfl⟩
 split
 · split
   · exact a _
   exact ⟨rfl,rfl,rfl,rfl,.inl rfl⟩
 exact a s
theorem F3{m:Nat}{s:Ck}(ok:Bf m s){no:Int}(h:Bo s.its no=true):Bf (m+U) (s.write no).2:=by
 obtain ⟨b,hb,hl,h0,h1⟩:=ok.key h
 unfold Ck.write
 split
 ·exact ok.more (by omega)
 split
 ·have hp:=O1 ok.dk s.nm (max 0 (s.d.size s.nm)) (List.replicate (no*256-max 0 (s.d.size s.nm)).toNat 0)
  rw[List.length_replicate] at hp
  have a:Ok (m+268435457) (s.pad no).2:=Et hp (by omega)
  have hq:=ok.n7 (m':=m+268435457) (by omega) a
  split
  ·exact (QH hq h).more (by unfold U;omega)
  exact hq.more (by unfold U;omega)
 exact (QH ok h).more (by unfold U;omega)
theorem V8{m:Nat}{s:Ck}(ok:Bf m s){no:Int}(h:D1 s.its no=true):Bf (m+U) (s.release no).2∧((s.release no).1=0→(s.release no).2.its.length+1=s.its.length)∧(∀k,Bo (s.release no).2.its k=true→Bo s.its k=true)∧(s.release no).2.cap=s.cap:=by
 have hw:=F3 ok (Ej h)
 obtain ⟨n,i,o,q,c⟩:=BX s no
 have b:D1 (s.write no).2.its no=true:=by
  rcases c with e|e
  · simp_all
  rw[e,H0];exact h
 have f: ∀k,Bo (s.write no).2.its k=Bo s.its k:=by
  intro k
  rcases c with e|e
  · grind
  rw[e,NR]
 have d:(s.write no).2.its.length=s.its.length:=by
  rcases c with e|e
  · grind
  rw[e,Ld]
 unfold Ck.release
 by_cases g:(s.write no).1=0
 · rw [if_pos g]
   simp only[b,if_true]
   have j:=WE hw.LC (Ej b)
   refine ⟨⟨Z7 hw.LC no,hw.nd.sublist ((Lt _ _).map _),?_,?_,fun p hp=>hw.As p ((Lt _ _).subset hp),hw.cap,?_,hw.dk,hw.nm,hw.reads⟩,?_,?_,i⟩
   · intro k
     rw[FP hw.nd]
     by_cases a:k=no
     ·rw[if_pos a]
      subst a
      show _=false
      rw[Bool.eq_false_iff]
      intro h
      exact (Lp.1 (Bj.1 h)).2 rfl
     rw[if_neg a,←hw.same k,Bool.eq_iff_iff,Bj,Bj,Lp]
     simp_all
   · show (Gd no (s.write no).2.CO).length=(Gc (s.write no).2.its no).length
     have:=T1 (k:=no) (l:=(s.write no).2.CO) (by rw[←hw.same];exact Ej b)
     have:=hw.len
     omega
   · have:=hw.most
     grind
   · omega
   intro k a
   rw[←f]
   exact Bj.2 (Lp.1 (Bj.1 a)).1
 simp_all
theorem Ly{m:Nat}{s:Ck}(ok:Bf m s):Bf (m+U) s.room.2∧(s.room.1=0→(s.room.2.its.length:Int)<s.room.2.cap)∧(∀k,Bo s.room.2.its k=true→Bo s.its k=true)∧s.room.2.cap=s.cap:=by
 unfold Ck.room
 by_cases a:(s.CO.length:Int)<s.cap
 ·rw[if_pos a]
  exact ⟨ok.more (by omega),fun _=>by have:=ok.len;show (s.its.length:Int)<s.cap;omega,fun k h=>h,rfl⟩
 rw[if_neg a]
 cases b:MQ s.its with
 |none=>exact ⟨ok.more (by omega),(fun h=>by cases h),(fun k h=>h),rfl⟩
 | some n =>
  obtain ⟨h1,c,d,e⟩:=V8 ok (Ln b)
  have:=ok.most
  grind
theorem Qw{no:Int}{b:List UInt8}(hb:b.length=256)(h0:0≤no)(h1:no<1048576): ∀{l:Sa},(∀p∈l,p.2.length=256∧0≤p.1∧p.1<1048576)→ ∀p∈DL no b l,p.2.length=256∧0≤p.1∧p.1<1048576
 | [],_,p,hp=>by simp[DL] at hp;subst hp;exact ⟨hb,h0,h1⟩
 | q :: l, hl, p, hp => by
  unfold DL at hp
  split at hp
  ·grind
  rcases List.mem_cons.1 hp with rfl|hp
  ·simp_all
  exact Qw hb h0 h1 (fun p hp=>hl p (List.mem_cons_of_mem _ hp)) p hp
theorem KB(s:Ck)(no:Int)(b:List UInt8):(s.take no b).2.reads=s.reads:=by
 have hw: ∀k,(s.release k).2.reads=s.reads:=by
  intro k
  unfold Ck.release
  split
  ·exact (BX s k).2.2.1
  exact (BX s k).2.2.1
 have hr:s.room.2.reads=s.reads:=by grind [Ck.room]
 grind [Ck.take]
theorem Nk{m : Nat}{s : Ck}(ok : Bf m s){no : Int}{b : List UInt8}(h : Bo s.its no = false)(h0 : 0 ≤ no)(h1 : no < 1048576)(hb : b.length = 256) : Bf (m + U) (s.take no b).2 := by
 obtain ⟨hr,r,w,x⟩:=Ly ok
 unfold Ck.take
 by_cases o:s.room.1=0
 ·rw [if_pos o]
  have u:=r o
  have f:Bo s.room.2.its no=false:=by grind
  have d:(BK no s.room.2.CO).isSome=false:=by rw[←hr.same];exact f
  refine ⟨⟨?_,?_,?_⟩,?_,?_,?_,?_,hr.cap,?_,hr.dk,hr.nm,hr.reads⟩
  ·show (Du (s.room.2.its++ [⟨no,0,false⟩])).Nodup
   unfold Du
   rw[List.map_append,List.nodup_append]
   refine ⟨hr.LC.nd,by simp,?_⟩
   intro a ha c g e
   simp at g
   subst e g
   rw[Bj.2 ha] at f
   cases f
  ·intro n i
   rcases List.mem_append.1 i with i|i
   · exact hr.LC.pins n i
   simp_all
  ·have:=hr.cap
   grind
  ·show ((DL no b s.room.2.CO).map (·.1)).Nodup
   rw[Mb,d]
   simp only[Bool.false_eq_true,if_false]
   rw[List.nodup_append]
   refine ⟨hr.nd,by simp,?_⟩
   intro a ha c g e
   simp at g
   subst e g
   rw[Qu.2 ha] at d;cases d
  ·intro k
   show Bo (s.room.2.its++ [_]) k=(BK k (DL no b s.room.2.CO)).isSome
   rw[CU]
   unfold Bo
   rw[List.any_append]
   by_cases t:k=no
   · simp_all
   rw[if_neg t,←hr.same k]
   grind [Bo]
  ·show (DL no b s.room.2.CO).length=(s.room.2.its++ [_]).length
   simp[T4,d,List.length_append,hr.len]
  ·intro p hp
   have j:=hp
   have: ∀l:Sa,(∀p∈l,p.2.length=256∧0≤p.1∧p.1<1048576)→ ∀p∈DL no b l,p.2.length=256∧0≤p.1∧p.1<1048576:=by
    intro l
    induction l with
    |nil=>intro _ p hp;simp[DL] at hp;subst hp;exact ⟨hb,h0,h1⟩
    | cons q l v =>
      intro hl p hp
      unfold DL at hp
      split at hp
      ·grind
      rcases List.mem_cons.1 hp with rfl|hp
      ·simp_all
      exact v (fun p hp=>hl p (List.mem_cons_of_mem _ hp)) p hp
   exact this _ hr.As p j
  show ((s.room.2.its++ [_]).length:Int)≤s.room.2.cap
  rw[List.length_append];simp;omega
 rw[if_neg o];exact hr
