/- treeFails holds for every input. No condition. (part 12) -/
import Derived.Test.YtfhbmblbidcmmaaGreatYa9
set_option linter.all false
namespace Go.Proofs.YtfhbmblbidcmmaaGreat
open Go.Dk
theorem Po{k:Int}{l:Qu} :(AP k l).isSome=true↔k∈l.map (·.1):=by
 induction l with
 |nil=>simp[AP]
 | cons p l a =>
  unfold AP
  by_cases h:k=p.1
  ·rw[if_pos h];simp[h]
  rw[if_neg h,a];simp[h]
theorem IC{k:Int}{b:List UInt8}{l:Qu}(h:AP k l=some b):(k,b)∈l:=by
 induction l with
 |nil=>simp[AP] at h
 | cons p l a =>
  unfold AP at h
  split at h
  ·cases h;subst k;simp
  exact List.mem_cons_of_mem _ (a h)
theorem BQ(k j:Int)(b:List UInt8)(l:Qu):AP j (Cg k b l)=if j=k then some b else AP j l:=by
 induction l with
 |nil=>simp[Cg,AP]
 | cons p l c =>
  unfold Cg
  by_cases h:k=p.1
  ·rw[if_pos h]
   unfold AP
   by_cases a:j=k
   ·simp[a]
   rw[if_neg a,if_neg a,if_neg (fun e=>a (e.trans h.symm))]
  rw[if_neg h]
  show (if j=p.1 then some p.2 else AP j (Cg k b l))=if j=k then some b else if j=p.1 then some p.2 else AP j l
  rw[c]
  by_cases a:j=k
  ·subst a;simp[h]
  simp[a]
theorem LB(k:Int)(b:List UInt8)(l:Qu):(Cg k b l).map (·.1)=if (AP k l).isSome then l.map (·.1) else l.map (·.1)++ [k]:=by
 induction l with
 |nil=>simp[Cg,AP]
 | cons p l a =>
  unfold Cg AP
  by_cases h:k=p.1
  ·rw[if_pos h,if_pos h];simp[h]
  rw[if_neg h,if_neg h,List.map_cons,a]
  split<;>simp
theorem KS(k:Int)(l:Qu):(EV k l).Sublist l:=by
 induction l with
 |nil=>exact List.Sublist.slnil
 | cons p l a =>
  unfold EV
  split
  ·exact List.sublist_cons_self _ _
  exact a.cons_cons _
theorem FE{k:Int}{l:Qu}(c:(l.map (·.1)).Nodup)(j:Int):AP j (EV k l)=if j=k then none else AP j l:=by
 induction l with
 |nil=>simp[EV,AP]
 | cons p l f =>
  rw[List.map_cons,List.nodup_cons] at c
  unfold EV
  by_cases h:k=p.1
  ·rw[if_pos h]
   by_cases a:j=k
   ·rw[if_pos a]
    cases d:AP j l with
    |none=>rfl
    |some b=>exact absurd (Po.1 (by rw[d];rfl)) (by rw[a,h];exact c.1)
   rw[if_neg a]
   show _=if j=p.1 then some p.2 else AP j l
   rw[if_neg (fun e=>a (e.trans h.symm))]
  rw[if_neg h]
  show (if j=p.1 then some p.2 else AP j (EV k l))=if j=k then none else if j=p.1 then some p.2 else AP j l
  rw[f c.2]
  by_cases a:j=k
  ·subst a;simp[h]
  simp[a]
theorem R6{k:Int}{l:Qu}(h:(AP k l).isSome=true):(EV k l).length+1=l.length:=by
 induction l with
 |nil=>simp[AP] at h
 | cons p l b =>
  unfold AP at h
  unfold EV
  by_cases a:k=p.1
  ·rw[if_pos a];rfl
  rw[if_neg a] at h⊢
  simp only[List.length_cons]
  rw[b h]
theorem R8{k:Int}{b:List UInt8}{l:Qu} :(Cg k b l).length=if (AP k l).isSome then l.length else l.length+1:=by
 have:=congrArg List.length (LB k b l)
 rw[List.length_map] at this
 rw[this]
 split<;>simp
theorem OZ(its:List It)(k:Int)(a:Bool):Da (AU its k a)=Da its:=by
 unfold Da AU PH
 rw[List.map_map]
 apply List.map_congr_left
 intro n _
 simp only[Function.comp]
 split<;>rfl
theorem Bb{its:List It}{k:Int} :Bf its k=true↔k∈Da its:=by
 unfold Bf Da
 rw[List.any_eq_true,List.mem_map]
 constructor
 ·rintro ⟨n,a,b⟩;exact ⟨n,a,by simpa using b⟩
 rintro ⟨n,a,b⟩;exact ⟨n,a,by simpa using b⟩
theorem OM{a b:List It}(h: ∀k,k∈Da a↔k∈Da b)(k:Int):Bf a k=Bf b k:=by
 rw[Bool.eq_iff_iff,Bb,Bb];exact h k
theorem MO(its:List It)(k j:Int)(a:Bool):Bf (AU its k a) j=Bf its j:=OM (fun _=>by rw[OZ]) j
theorem KB(its:List It)(k:Int)(a:Bool):(AU its k a).length=its.length:=by simp[AU,PH]
theorem Vn{its:List It}{k:Int}{b:Bool}(h: ∀n∈its,0≤n.pins): ∀n∈AU its k b,0≤n.pins:=by
 intro n a
 unfold AU PH at a
 obtain ⟨m,hm,rfl⟩:=List.mem_map.1 a
 have:=h m hm
 split<;>exact this
theorem Hi(its:List It)(k j:Int)(a:Bool):Df (AU its k a) j=Df its j:=by
 unfold Df AU PH
 rw[List.any_map]
 congr 1
 funext n
 simp only[Function.comp]
 split<;>rfl
theorem YG{its:List It}(h:DP its)(k:Int)(a:Bool):DP (AU its k a):=
 ⟨by rw[OZ];exact h.nd,Vn h.pins,by rw[KB];exact h.len⟩
theorem Nx(its:List It)(k:Int):Da (E5 its k)=(Da its).filter (fun j=>j !=k):=by
 unfold Da E5
 rw[List.filter_map];rfl
theorem KO{its:List It}{k j:Int} :j∈Da (E5 its k)↔j∈Da its∧j≠k:=by rw[Nx,List.mem_filter];simp
theorem Xh{its:List It}(h:DP its)(k:Int):DP (E5 its k):=
 ⟨by rw[Nx];exact h.nd.sublist List.filter_sublist,fun n a=>h.pins n (List.mem_filter.1 a).1,Nat.le_trans (List.length_filter_le _ _) h.len⟩
theorem filter_one{l:List Int}(c:l.Nodup){k:Int}(d:k∈l):(l.filter (fun j=>j !=k)).length+1=l.length:=by
 induction l with
 |nil=>simp at d
 | cons a l f =>
  rw[List.nodup_cons] at c
  by_cases h:a=k
  ·subst h
   have:l.filter (fun j=>j !=a)=l:=List.filter_eq_self.2 fun x hx=>by simp;intro e;subst e;exact c.1 hx
   simp[List.filter_cons,this]
  have b:k∈l:=by rcases List.mem_cons.1 d with e|e;exact absurd e.symm h;exact e
  simp[List.filter_cons,h,f c.2 b]
theorem Uv{its:List It}(h:DP its){k:Int}(c:Bf its k=true):(E5 its k).length+1=its.length:=by
 have a:(E5 its k).length=(Da (E5 its k)).length:=by simp[Da]
 have b:its.length=(Da its).length:=by simp[Da]
 rw[a,Nx,b]
 exact filter_one h.nd (Bb.1 c)
theorem U9{its:List It}{k j:Int} :j∈Da (EC its k)↔j∈Da its:=by
 unfold Da EC E5
 simp only[List.map_append,List.mem_append,List.mem_map,List.mem_filter]
 constructor
 ·rintro (⟨n,⟨a,_⟩,b⟩|⟨n,⟨a,_⟩,b⟩)<;>exact ⟨n,a,b⟩
 rintro ⟨n,a,b⟩
 by_cases c:n.key=k
 ·exact .inr ⟨n,⟨a,by simpa using c⟩,b⟩
 exact .inl ⟨n,⟨a,by simpa using c⟩,b⟩
theorem Bs(its:List It)(k:Int):(EC its k).Perm its:=by
 unfold EC E5
 have h:=List.filter_append_perm (fun n:It=>n.key !=k) its
 have e:(its.filter fun n=>!(n.key !=k))=its.filter fun n=>n.key==k:=by congr 1;funext n;simp[bne]
 rw[e] at h
 exact h
theorem Xj{its:List It}(h:DP its)(k:Int):DP (EC its k):=
 ⟨((Bs its k).map _).nodup_iff.2 h.nd,fun n a=>h.pins n ((Bs its k).mem_iff.1 a),by rw[(Bs its k).length_eq];exact h.len⟩
theorem Ur{its:List It}{n:It}(h:L8 its=some n):n∈its∧n.pins=0:=⟨List.mem_of_find?_eq_some h,by have:=List.find?_some h;simpa using this⟩
theorem KN{its:List It}{n:It}(h:L8 its=some n):Df its n.key=true:=by
 obtain ⟨a,b⟩:=Ur h
 unfold Df
 rw[List.any_eq_true]
 exact ⟨n,a,by simp[b]⟩
theorem DV{its:List It}{k:Int}(h:Df its k=true):Bf its k=true:=by
 unfold Df at h
 rw[List.any_eq_true] at h
 obtain ⟨n,b,a⟩:=h
 rw[Bb]
 exact List.mem_map.2 ⟨n,b,by simp at a;exact a.1⟩
def U:Nat:=268436480
theorem Bi.key{m:Nat}{s:Ck}(ok:Bi m s){k:Int}(h:Bf s.its k=true): ∃b,AP k s.BU=some b∧b.length=256∧0≤k∧k<1048576:=by
 rw[ok.same] at h
 obtain ⟨b,hb⟩:=Option.isSome_iff_exists.1 h
 have:=ok.Ay _ (IC hb)
 exact ⟨b,hb,this⟩
theorem Bi.more{m m':Nat}{s:Ck}(ok:Bi m s)(h:m≤m'):Bi m' s:=⟨ok.Lj,ok.nd,ok.same,ok.len,ok.Ay,ok.cap,ok.most,Ed ok.dk h,ok.nm,by have:=ok.reads;omega⟩
theorem Bi.D9{m m':Nat}{s:Ck}(ok:Bi m s){d:Dk}(h:m≤m')(a:Ok m' d):Bi m' { s with d:=d } :=⟨ok.Lj,ok.nd,ok.same,ok.len,ok.Ay,ok.cap,ok.most,a,ok.nm,by have:=ok.reads;show 0≤s.reads∧s.reads≤m';omega⟩
theorem Bi.mark{m:Nat}{s:Ck}(ok:Bi m s)(k:Int)(a:Bool):Bi m { s with its:=AU s.its k a } :=
 ⟨YG ok.Lj k a,ok.nd,fun j=>by show Bf (AU s.its k a) j=_;rw[MO];exact ok.same j,by show _=(AU s.its k a).length;rw[KB];exact ok.len,ok.Ay,ok.cap,by show ((AU s.its k a).length:Int)≤_;rw[KB];exact ok.most,ok.dk,ok.nm,ok.reads⟩
theorem P9{m:Nat}{s:Ck}(ok:Bi m s){no:Int}(h:Bf s.its no=true):Bi (m+257) (s.Bn no).2:=by
 obtain ⟨b,hb,hl,_,_⟩:=ok.key h
 have e:s.Ay no=b:=by unfold Ck.Ay;rw[hb];rfl
 have hw:=Nv ok.dk s.nm (no*256) (s.Ay no)
 rw[e,hl] at hw
 unfold Ck.Bn
 rw[e]
 split
 ·exact Bi.mark (ok.D9 (m':=m+257) (by omega) (Ed hw (by omega))) no false
 exact ok.D9 (by omega) (Ed hw (by omega))
theorem BT(s:Ck)(no:Int):(s.write no).2.nm=s.nm∧(s.write no).2.cap=s.cap∧(s.write no).2.reads=s.reads∧(s.write no).2.BU=s.BU∧((s.write no).2.its=s.its∨(s.write no).2.its=AU s.its no false):=by
 have a: ∀s:Ck,(s.Bn no).2.nm=s.nm∧(s.Bn no).2.cap=s.cap∧(s.Bn no).2.reads=s.reads∧(s.Bn no).2.BU=s.BU∧((s.Bn no).2.its=s.its∨(s.Bn no).2.its=AU s.its no false):=by
  intro s
  unfold Ck.Bn
  split
  · exact ⟨rfl,rfl,rfl,rfl,.inr rfl⟩
  exact ⟨rfl,rfl,rfl,rfl,.inl rfl⟩
 unfold Ck.write
 split
 · exact ⟨rfl,rfl,rfl,rfl,.inl rfl⟩
 split
 · split
   · exact a _
   exact ⟨rfl,rfl,rfl,rfl,.inl rfl⟩
 exact a s
theorem Fx{m:Nat}{s:Ck}(ok:Bi m s){no:Int}(h:Bf s.its no=true):Bi (m+U) (s.write no).2:=by
 obtain ⟨b,hb,hl,c,e⟩:=ok.key h
 unfold Ck.write
 split
 ·exact ok.more (by omega)
 split
 ·have hp:=Nv ok.dk s.nm (max 0 (s.d.size s.nm)) (List.replicate (no*256-max 0 (s.d.size s.nm)).toNat 0)
  rw[List.length_replicate] at hp
  have a:Ok (m+268435457) (s.pad no).2:=Ed hp (by omega)
  have hq:=ok.D9 (m':=m+268435457) (by omega) a
  split
  ·exact (P9 hq h).more (by unfold U;omega)
  exact hq.more (by unfold U;omega)
 exact (P9 ok h).more (by unfold U;omega)
theorem Tt{m:Nat}{s:Ck}(ok:Bi m s){no:Int}(h:Df s.its no=true):Bi (m+U) (s.release no).2∧((s.release no).1=0→(s.release no).2.its.length+1=s.its.length)∧(∀k,Bf (s.release no).2.its k=true→Bf s.its k=true)∧(s.release no).2.cap=s.cap:=by
 have hw:=Fx ok (DV h)
 obtain ⟨n,i,o,q,d⟩:=BT s no
 have b:Df (s.write no).2.its no=true:=by
  rcases d with e|e
  · rw[e];exact h
  rw[e,Hi];exact h
 have f: ∀k,Bf (s.write no).2.its k=Bf s.its k:=by
  intro k
  rcases d with e|e
  · rw[e]
  rw[e,MO]
 have g:(s.write no).2.its.length=s.its.length:=by
  rcases d with e|e
  · rw[e]
  rw[e,KB]
 unfold Ck.release
 by_cases c:(s.write no).1=0
 · rw [if_pos c]
   simp only[b,if_true]
   have j:=Uv hw.Lj (DV b)
   refine ⟨⟨Xh hw.Lj no,hw.nd.sublist ((KS _ _).map _),?_,?_,fun p hp=>hw.Ay p ((KS _ _).subset hp),hw.cap,?_,hw.dk,hw.nm,hw.reads⟩,?_,?_,i⟩
   · intro k
     show Bf (E5 (s.write no).2.its no) k=(AP k (EV no (s.write no).2.BU)).isSome
     rw[FE hw.nd]
     by_cases a:k=no
     ·rw[if_pos a]
      subst a
      show _=false
      rw[Bool.eq_false_iff]
      intro h
      exact (KO.1 (Bb.1 h)).2 rfl
     rw[if_neg a,←hw.same k,Bool.eq_iff_iff,Bb,Bb,KO]
     simp[a]
   · show (EV no (s.write no).2.BU).length=(E5 (s.write no).2.its no).length
     have:=R6 (k:=no) (l:=(s.write no).2.BU) (by rw[←hw.same];exact DV b)
     have:=hw.len
     omega
   · have:=hw.most
     show ((E5 (s.write no).2.its no).length:Int)≤(s.write no).2.cap
     omega
   · intro _
     show (E5 (s.write no).2.its no).length+1=_
     omega
   intro k a
   rw[←f]
   exact Bb.2 (KO.1 (Bb.1 a)).1
 rw[if_neg c]
 exact ⟨hw,fun h=>absurd h c,fun k a=>by rw[←f];exact a,i⟩
theorem Jq{m:Nat}{s:Ck}(ok:Bi m s):Bi (m+U) s.room.2∧(s.room.1=0→(s.room.2.its.length:Int)<s.room.2.cap)∧(∀k,Bf s.room.2.its k=true→Bf s.its k=true)∧s.room.2.cap=s.cap:=by
 unfold Ck.room
 by_cases b:(s.BU.length:Int)<s.cap
 ·rw[if_pos b]
  exact ⟨ok.more (by omega),fun _=>by have:=ok.len;show (s.its.length:Int)<s.cap;omega,fun k h=>h,rfl⟩
 rw[if_neg b]
 cases f:L8 s.its with
 |none=>exact ⟨ok.more (by omega),(fun h=>by cases h),(fun k h=>h),rfl⟩
 | some n =>
  obtain ⟨c,d,e,a⟩:=Tt ok (KN f)
  refine ⟨c,fun h=>?_,e,a⟩
  have:=d h
  have:=ok.most
  show ((s.release n.key).2.its.length:Int)<(s.release n.key).2.cap
  rw[a]
  omega
theorem Pr{no:Int}{b:List UInt8}(hb:b.length=256)(a:0≤no)(c:no<1048576): ∀{l:Qu},(∀p∈l,p.2.length=256∧0≤p.1∧p.1<1048576)→ ∀p∈Cg no b l,p.2.length=256∧0≤p.1∧p.1<1048576
 | [],_,p,hp=>by simp[Cg] at hp;subst hp;exact ⟨hb,a,c⟩
 | q :: l, hl, p, hp => by
  unfold Cg at hp
  split at hp
  ·rcases List.mem_cons.1 hp with rfl|hp
   ·exact ⟨hb,a,c⟩
   exact hl p (List.mem_cons_of_mem _ hp)
  rcases List.mem_cons.1 hp with rfl|hp
  ·exact hl _ (by simp)
  exact Pr hb a c (fun p hp=>hl p (List.mem_cons_of_mem _ hp)) p hp
theorem Kh(s:Ck)(no:Int)(b:List UInt8):(s.take no b).2.reads=s.reads:=by
 have hw: ∀k,(s.release k).2.reads=s.reads:=by
  intro k
  unfold Ck.release
  split
  · exact (BT s k).2.2.1
  exact (BT s k).2.2.1
 have hr:s.room.2.reads=s.reads:=by
  unfold Ck.room
  split
  · rfl
  cases L8 s.its with
  |none=>rfl
  |some n=>exact hw n.key
 unfold Ck.take
 split
 · exact hr
 exact hr
theorem M4{m : Nat}{s : Ck}(ok : Bi m s){no : Int}{b : List UInt8}(h : Bf s.its no = false)(t : 0 ≤ no)(u : no < 1048576)(hb : b.length = 256) : Bi (m + U) (s.take no b).2 := by
 obtain ⟨hr,v,w,B⟩:=Jq ok
 unfold Ck.take
 by_cases r:s.room.1=0
 ·rw [if_pos r]
  have y:=v r
  have f:Bf s.room.2.its no=false:=by
   rw[Bool.eq_false_iff];intro x;rw[w no x] at h;cases h
  have d:(AP no s.room.2.BU).isSome=false:=by rw[←hr.same];exact f
  refine ⟨⟨?_,?_,?_⟩,?_,?_,?_,?_,hr.cap,?_,hr.dk,hr.nm,hr.reads⟩
  · show (Da (s.room.2.its++ [⟨no,0,false⟩])).Nodup
    unfold Da
    rw[List.map_append,List.nodup_append]
    refine ⟨hr.Lj.nd,by simp,?_⟩
    intro a ha c i e
    simp at i
    subst e i
    rw[Bb.2 ha] at f
    cases f
  · intro n g
    rcases List.mem_append.1 g with g|g
    · exact hr.Lj.pins n g
    simp at g;subst g;simp
  · have:=hr.cap
    show (s.room.2.its++ [_]).length≤4096
    rw[List.length_append];simp;omega
  · show ((Cg no b s.room.2.BU).map (·.1)).Nodup
    rw[LB,d]
    simp only[Bool.false_eq_true,if_false]
    rw[List.nodup_append]
    refine ⟨hr.nd,by simp,?_⟩
    intro a ha c i e
    simp at i
    subst e i
    rw[Po.2 ha] at d;cases d
  · intro k
    show Bf (s.room.2.its++ [_]) k=(AP k (Cg no b s.room.2.BU)).isSome
    rw[BQ]
    unfold Bf
    rw[List.any_append]
    by_cases j:k=no
    · subst j;simp
    rw[if_neg j,←hr.same k]
    simp[Bf]
    exact fun e=>absurd e.symm j
  · show (Cg no b s.room.2.BU).length=(s.room.2.its++ [_]).length
    rw[R8,d,List.length_append]
    simp[hr.len]
  · intro p hp
    have o:p∈Cg no b s.room.2.BU:=hp
    have : ∀ l : Qu, (∀ p ∈ l, p.2.length = 256 ∧ 0 ≤ p.1 ∧ p.1 < 1048576) → ∀ p ∈ Cg no b l, p.2.length = 256 ∧ 0 ≤ p.1 ∧ p.1 < 1048576 := by
     intro l
     induction l with
     |nil=>intro _ p hp;simp[Cg] at hp;subst hp;exact ⟨hb,t,u⟩
     | cons q l z =>
       intro hl p hp
       unfold Cg at hp
       split at hp
       ·rcases List.mem_cons.1 hp with rfl|hp
        ·exact ⟨hb,t,u⟩
        exact hl p (List.mem_cons_of_mem _ hp)
       rcases List.mem_cons.1 hp with rfl|hp
       ·exact hl _ (by simp)
       exact z (fun p hp=>hl p (List.mem_cons_of_mem _ hp)) p hp
    exact this _ hr.Ay p o
  show ((s.room.2.its++ [_]).length:Int)≤s.room.2.cap
  rw[List.length_append];simp;omega
 rw[if_neg r];exact hr
