/- censusPages holds for every input. No condition. (part 11) -/
import Derived.Test.YtfhbmblbidcmmaaGreatVa8
set_option linter.all false
namespace Go.Proofs.YtfhbmblbidcmmaaGreat
open Go.Dk
theorem Ro{k:Int}{l:Tf} :(BH k l).isSome=true↔k∈l.map (·.1):=by induction l with
 |nil=>simp[BH]
 | cons p l a =>
  unfold BH
  grind
theorem J0{k:Int}{b:List UInt8}{l:Tf}(h:BH k l=some b):(k,b)∈l:=by induction l with
 |nil=>simp[BH] at h
 |cons p l a=>grind [BH]
theorem Da(k j:Int)(b:List UInt8)(l:Tf):BH j (Ed k b l)=if j=k then some b else BH j l:=by induction l with
 |nil=>simp[Ed,BH]
 | cons p l a =>
  unfold Ed
  by_cases h:k=p.1
  ·rw[if_pos h]
   unfold BH
   simp_all
  rw[if_neg h]
  show (if j=p.1 then some p.2 else BH j (Ed k b l))=if j=k then some b else if j=p.1 then some p.2 else BH j l
  grind
theorem ME(k:Int)(b:List UInt8)(l:Tf):(Ed k b l).map (·.1)=if (BH k l).isSome then l.map (·.1) else l.map (·.1)++ [k]:=by induction l with
 |nil=>simp[Ed,BH]
 | cons p l a =>
  unfold Ed BH
  grind
theorem LO(k:Int)(l:Tf):(Gr k l).Sublist l:=by induction l with
 |nil=>exact List.Sublist.slnil
 |cons p l a=>grind [Gr]
theorem Ga{k:Int}{l:Tf}(c:(l.map (·.1)).Nodup)(j:Int):BH j (Gr k l)=if j=k then none else BH j l:=by induction l with
 |nil=>simp[Gr,BH]
 | cons p l e =>
  rw[List.map_cons,List.nodup_cons] at c
  unfold Gr
  by_cases h:k=p.1
  ·rw[if_pos h]
   by_cases a:j=k
   ·rw[if_pos a]
    cases d:BH j l with
    |none=>rfl
    |some b=>exact absurd (Ro.1 (by rw[d];rfl)) (by rw[a,h];exact c.1)
   rw[if_neg a]
   show _=if j=p.1 then some p.2 else BH j l
   simp_all
  rw[if_neg h]
  show (if j=p.1 then some p.2 else BH j (Gr k l))=if j=k then none else if j=p.1 then some p.2 else BH j l
  grind
theorem UE{k:Int}{l:Tf}(h:(BH k l).isSome=true):(Gr k l).length+1=l.length:=by induction l with
 |nil=>simp[BH] at h
 |cons p l a=>grind [BH,Gr,List.length_cons]
theorem UH{k:Int}{b:List UInt8}{l:Tf} :(Ed k b l).length=if (BH k l).isSome then l.length else l.length+1:=by
 have:=congrArg List.length (ME k b l)
 grind
theorem QZ(its:List It)(k:Int)(a:Bool):D5 (Bv its k a)=D5 its:=by
 unfold D5 Bv Tq
 rw[List.map_map]
 apply List.map_congr_left
 grind
theorem Bs{its:List It}{k:Int} :Bw its k=true↔k∈D5 its:=by simp[Bw,D5,List.any_eq_true,List.mem_map]
theorem QK{a b:List It}(h: ∀k,k∈D5 a↔k∈D5 b)(k:Int):Bw a k=Bw b k:=by rw[Bool.eq_iff_iff,Bs,Bs];exact h k
theorem OE(its:List It)(k j:Int)(a:Bool):Bw (Bv its k a) j=Bw its j:=QK (fun _=>by rw[QZ]) j
theorem L7(its:List It)(k:Int)(a:Bool):(Bv its k a).length=its.length:=by simp[Bv,Tq]
theorem Zr{its:List It}{k:Int}{b:Bool}(h: ∀n∈its,0≤n.pins): ∀n∈Bv its k b,0≤n.pins:=by
 intro n a
 unfold Bv Tq at a
 grind
theorem Io(its:List It)(k j:Int)(a:Bool):DD (Bv its k a) j=DD its j:=by
 unfold DD Bv Tq
 rw[List.any_map]
 grind
theorem fR{its:List It}(h:Ez its)(k:Int)(a:Bool):Ez (Bv its k a):=
 ⟨by rw[QZ];exact h.nd,Zr h.pins,by rw[L7];exact h.len⟩
theorem Pu(its:List It)(k:Int):D5 (Gq its k)=(D5 its).filter (fun j=>j !=k):=by
 unfold D5 Gq
 rw[List.filter_map];rfl
theorem LJ{its:List It}{k j:Int} :j∈D5 (Gq its k)↔j∈D5 its∧j≠k:=by rw[Pu,List.mem_filter];simp
theorem bL{its:List It}(h:Ez its)(k:Int):Ez (Gq its k):=
 ⟨by rw[Pu];exact h.nd.sublist List.filter_sublist,fun n a=>h.pins n (List.mem_filter.1 a).1,Nat.le_trans (List.length_filter_le _ _) h.len⟩
theorem filter_one{l:List Int}(b:l.Nodup){k:Int}(c:k∈l):(l.filter (fun j=>j !=k)).length+1=l.length:=by induction l with
 |nil=>simp at c
 | cons a l d =>
  rw[List.nodup_cons] at b
  by_cases h:a=k
  ·subst h
   have:l.filter (fun j=>j !=a)=l:=List.filter_eq_self.2 fun x hx=>by simp;intro e;subst e;exact b.1 hx
   simp_all
  grind
theorem Yl{its:List It}(h:Ez its){k:Int}(c:Bw its k=true):(Gq its k).length+1=its.length:=by
 have a:(Gq its k).length=(D5 (Gq its k)).length:=by simp[D5]
 have b:its.length=(D5 its).length:=by simp[D5]
 rw[a,Pu,b]
 exact filter_one h.nd (Bs.1 c)
theorem Y0{its:List It}{k j:Int} :j∈D5 (Ff its k)↔j∈D5 its:=by
 unfold D5 Ff Gq
 simp only[List.map_append,List.mem_append,List.mem_map,List.mem_filter]
 grind
theorem BO(its:List It)(k:Int):(Ff its k).Perm its:=by
 unfold Ff Gq
 have h:=List.filter_append_perm (fun n:It=>n.key !=k) its
 grind
theorem bN{its:List It}(h:Ez its)(k:Int):Ez (Ff its k):=
 ⟨((BO its k).map _).nodup_iff.2 h.nd,fun n a=>h.pins n ((BO its k).mem_iff.1 a),by rw[(BO its k).length_eq];exact h.len⟩
theorem Yj{its:List It}{n:It}(h:NR its=some n):n∈its∧n.pins=0:=⟨List.mem_of_find?_eq_some h,by have:=List.find?_some h;simpa using this⟩
theorem LH{its:List It}{n:It}(h:NR its=some n):DD its n.key=true:=by
 obtain ⟨h1,a⟩:=Yj h
 unfold DD
 grind
theorem E2{its:List It}{k:Int}(h:DD its k=true):Bw its k=true:=by
 unfold DD at h
 rw[List.any_eq_true] at h
 obtain ⟨n,h1,a⟩:=h
 rw[Bs]
 exact List.mem_map.2 ⟨n,h1,by simp at a;exact a.1⟩
def U:Nat:=268436480
theorem Bn.key{m:Nat}{s:Ck}(ok:Bn m s){k:Int}(h:Bw s.its k=true): ∃b,BH k s.CS=some b∧b.length=256∧0≤k∧k<1048576:=by
 rw[ok.same] at h
 obtain ⟨b,hb⟩:=Option.isSome_iff_exists.1 h
 have:=ok.Ap _ (J0 hb)
 simp_all
theorem Bn.more{m m':Nat}{s:Ck}(ok:Bn m s)(h:m≤m'):Bn m' s:=⟨ok.Mi,ok.nd,ok.same,ok.len,ok.Ap,ok.cap,ok.most,E9 ok.dk h,ok.nm,by have:=ok.reads;omega⟩
theorem Bn.eO{m m':Nat}{s:Ck}(ok:Bn m s){d:Dk}(h:m≤m')(a:Ok m' d):Bn m' { s with d:=d } :=⟨ok.Mi,ok.nd,ok.same,ok.len,ok.Ap,ok.cap,ok.most,a,ok.nm,by have:=ok.reads;show 0≤s.reads∧s.reads≤m';omega⟩
theorem Bn.mark{m:Nat}{s:Ck}(ok:Bn m s)(k:Int)(a:Bool):Bn m { s with its:=Bv s.its k a } :=
 ⟨fR ok.Mi k a,ok.nd,fun j=>by show Bw (Bv s.its k a) j=_;rw[OE];exact ok.same j,by show _=(Bv s.its k a).length;rw[L7];exact ok.len,ok.Ap,ok.cap,by show ((Bv s.its k a).length:Int)≤_;rw[L7];exact ok.most,ok.dk,ok.nm,ok.reads⟩
theorem RF{m:Nat}{s:Ck}(ok:Bn m s){no:Int}(h:Bw s.its no=true):Bn (m+257) (s.B7 no).2:=by
 obtain ⟨b,hb,hl,_,_⟩:=ok.key h
 have e:s.Ap no=b:=by unfold Ck.Ap;rw[hb];rfl
 have hw:=Ps ok.dk s.nm (no*256) (s.Ap no)
 rw[e,hl] at hw
 unfold Ck.B7
 rw[e]
 split
 ·exact Bn.mark (ok.eO (m':=m+257) (by omega) (E9 hw (by omega))) no false
 exact ok.eO (by omega) (E9 hw (by omega))
theorem BW(s:Ck)(no:Int):(s.write no).2.nm=s.nm∧(s.write no).2.cap=s.cap∧(s.write no).2.reads=s.reads∧(s.write no).2.CS=s.CS∧((s.write no).2.its=s.its∨(s.write no).2.its=Bv s.its no false):=by
 have a: ∀s:Ck,(s.B7 no).2.nm=s.nm∧(s.B7 no).2.cap=s.cap∧(s.B7 no).2.reads=s.reads∧(s.B7 no).2.CS=s.CS∧((s.B7 no).2.its=s.its∨(s.B7 no).2.its=Bv s.its no false):=by
  intro s
  unfold Ck.B7
  split
  · exact ⟨rfl,rfl,rfl,rfl,.inr rfl⟩
  exact ⟨rfl,rfl,rfl,rfl,.inl rfl⟩
 unfold Ck.write
 split
 · exact ⟨rfl,rfl,rfl,rfl,.inl rfl⟩
 split
 · split
   · exact a _
   exact ⟨rfl,rfl,rfl,rfl,.inl rfl⟩
 exact a s
theorem FD{m:Nat}{s:Ck}(ok:Bn m s){no:Int}(h:Bw s.its no=true):Bn (m+U) (s.write no).2:=by
 obtain ⟨b,hb,hl,h0,h1⟩:=ok.key h
 unfold Ck.write
 split
 ·exact ok.more (by omega)
 split
 ·have hp:=Ps ok.dk s.nm (max 0 (s.d.size s.nm)) (List.replicate (no*256-max 0 (s.d.size s.nm)).toNat 0)
  rw[List.length_replicate] at hp
  have a:Ok (m+268435457) (s.pad no).2:=E9 hp (by omega)
  have hq:=ok.eO (m':=m+268435457) (by omega) a
  split
  ·exact (RF hq h).more (by unfold U;omega)
  exact hq.more (by unfold U;omega)
 exact (RF ok h).more (by unfold U;omega)
theorem WZ{m:Nat}{s:Ck}(ok:Bn m s){no:Int}(h:DD s.its no=true):Bn (m+U) (s.release no).2∧((s.release no).1=0→(s.release no).2.its.length+1=s.its.length)∧(∀k,Bw (s.release no).2.its k=true→Bw s.its k=true)∧(s.release no).2.cap=s.cap:=by
 have hw:=FD ok (E2 h)
 obtain ⟨n,i,o,q,c⟩:=BW s no
 have b:DD (s.write no).2.its no=true:=by
  rcases c with e|e
  · simp_all
  rw[e,Io];exact h
 have f: ∀k,Bw (s.write no).2.its k=Bw s.its k:=by
  intro k
  rcases c with e|e
  · grind
  rw[e,OE]
 have d:(s.write no).2.its.length=s.its.length:=by
  rcases c with e|e
  · grind
  rw[e,L7]
 unfold Ck.release
 by_cases g:(s.write no).1=0
 · rw [if_pos g]
   simp only[b,if_true]
   have j:=Yl hw.Mi (E2 b)
   refine ⟨⟨bL hw.Mi no,hw.nd.sublist ((LO _ _).map _),?_,?_,fun p hp=>hw.Ap p ((LO _ _).subset hp),hw.cap,?_,hw.dk,hw.nm,hw.reads⟩,?_,?_,i⟩
   · intro k
     rw[Ga hw.nd]
     by_cases a:k=no
     ·rw[if_pos a]
      subst a
      show _=false
      rw[Bool.eq_false_iff]
      intro h
      exact (LJ.1 (Bs.1 h)).2 rfl
     rw[if_neg a,←hw.same k,Bool.eq_iff_iff,Bs,Bs,LJ]
     simp_all
   · show (Gr no (s.write no).2.CS).length=(Gq (s.write no).2.its no).length
     have:=UE (k:=no) (l:=(s.write no).2.CS) (by rw[←hw.same];exact E2 b)
     have:=hw.len
     omega
   · have:=hw.most
     grind
   · omega
   intro k a
   rw[←f]
   exact Bs.2 (LJ.1 (Bs.1 a)).1
 simp_all
theorem LU{m:Nat}{s:Ck}(ok:Bn m s):Bn (m+U) s.room.2∧(s.room.1=0→(s.room.2.its.length:Int)<s.room.2.cap)∧(∀k,Bw s.room.2.its k=true→Bw s.its k=true)∧s.room.2.cap=s.cap:=by
 unfold Ck.room
 by_cases a:(s.CS.length:Int)<s.cap
 ·rw[if_pos a]
  exact ⟨ok.more (by omega),fun _=>by have:=ok.len;show (s.its.length:Int)<s.cap;omega,fun k h=>h,rfl⟩
 rw[if_neg a]
 cases b:NR s.its with
 |none=>exact ⟨ok.more (by omega),(fun h=>by cases h),(fun k h=>h),rfl⟩
 | some n =>
  obtain ⟨h1,c,d,e⟩:=WZ ok (LH b)
  have:=ok.most
  grind
theorem Rq{no:Int}{b:List UInt8}(hb:b.length=256)(h0:0≤no)(h1:no<1048576): ∀{l:Tf},(∀p∈l,p.2.length=256∧0≤p.1∧p.1<1048576)→ ∀p∈Ed no b l,p.2.length=256∧0≤p.1∧p.1<1048576
 | [],_,p,hp=>by simp[Ed] at hp;subst hp;exact ⟨hb,h0,h1⟩
 | q :: l, hl, p, hp => by
  unfold Ed at hp
  split at hp
  ·grind
  rcases List.mem_cons.1 hp with rfl|hp
  ·simp_all
  exact Rq hb h0 h1 (fun p hp=>hl p (List.mem_cons_of_mem _ hp)) p hp
theorem Lf(s:Ck)(no:Int)(b:List UInt8):(s.take no b).2.reads=s.reads:=by
 have hw: ∀k,(s.release k).2.reads=s.reads:=by
  intro k
  unfold Ck.release
  split
  ·exact (BW s k).2.2.1
  exact (BW s k).2.2.1
 have hr:s.room.2.reads=s.reads:=by grind [Ck.room]
 grind [Ck.take]
theorem Ol{m : Nat}{s : Ck}(ok : Bn m s){no : Int}{b : List UInt8}(h : Bw s.its no = false)(h0 : 0 ≤ no)(h1 : no < 1048576)(hb : b.length = 256) : Bn (m + U) (s.take no b).2 := by
 obtain ⟨hr,r,w,x⟩:=LU ok
 unfold Ck.take
 by_cases o:s.room.1=0
 ·rw [if_pos o]
  have u:=r o
  have f:Bw s.room.2.its no=false:=by grind
  have d:(BH no s.room.2.CS).isSome=false:=by rw[←hr.same];exact f
  refine ⟨⟨?_,?_,?_⟩,?_,?_,?_,?_,hr.cap,?_,hr.dk,hr.nm,hr.reads⟩
  ·show (D5 (s.room.2.its++ [⟨no,0,false⟩])).Nodup
   unfold D5
   rw[List.map_append,List.nodup_append]
   refine ⟨hr.Mi.nd,by simp,?_⟩
   intro a ha c g e
   simp at g
   subst e g
   rw[Bs.2 ha] at f
   cases f
  ·intro n i
   rcases List.mem_append.1 i with i|i
   · exact hr.Mi.pins n i
   simp_all
  ·have:=hr.cap
   grind
  ·show ((Ed no b s.room.2.CS).map (·.1)).Nodup
   rw[ME,d]
   simp only[Bool.false_eq_true,if_false]
   rw[List.nodup_append]
   refine ⟨hr.nd,by simp,?_⟩
   intro a ha c g e
   simp at g
   subst e g
   rw[Ro.2 ha] at d;cases d
  ·intro k
   show Bw (s.room.2.its++ [_]) k=(BH k (Ed no b s.room.2.CS)).isSome
   rw[Da]
   unfold Bw
   rw[List.any_append]
   by_cases t:k=no
   · simp_all
   rw[if_neg t,←hr.same k]
   grind [Bw]
  ·show (Ed no b s.room.2.CS).length=(s.room.2.its++ [_]).length
   simp[UH,d,List.length_append,hr.len]
  ·intro p hp
   have j:=hp
   have: ∀l:Tf,(∀p∈l,p.2.length=256∧0≤p.1∧p.1<1048576)→ ∀p∈Ed no b l,p.2.length=256∧0≤p.1∧p.1<1048576:=by
    intro l
    induction l with
    |nil=>intro _ p hp;simp[Ed] at hp;subst hp;exact ⟨hb,h0,h1⟩
    | cons q l v =>
      intro hl p hp
      unfold Ed at hp
      split at hp
      ·grind
      rcases List.mem_cons.1 hp with rfl|hp
      ·simp_all
      exact v (fun p hp=>hl p (List.mem_cons_of_mem _ hp)) p hp
   exact this _ hr.Ap p j
  show ((s.room.2.its++ [_]).length:Int)≤s.room.2.cap
  rw[List.length_append];simp;omega
 rw[if_neg o];exact hr
