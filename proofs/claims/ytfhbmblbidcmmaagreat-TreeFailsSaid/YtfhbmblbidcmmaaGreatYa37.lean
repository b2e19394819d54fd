/- treeFails holds for every input. No condition. (part 37) -/
import Derived.Test.YtfhbmblbidcmmaaGreatYa35
import Derived.Test.YtfhbmblbidcmmaaGreatYa36
set_option linter.all false
namespace Go.Proofs.YtfhbmblbidcmmaaGreat
open Go.Sl Go.Dk Go.Tr
def Clean(s:Ck):Prop:= ∀n∈s.its,n.Hr=false
theorem Clean.Ca{s:Ck}(h:Clean s)(no:Int):s.Ca no=false:=by
 rw[Bool.eq_false_iff]
 intro a
 obtain ⟨n,b,hm,_⟩:=GA.1 a
 rw[h n b] at hm
 cases hm
theorem Clean.write{s:Ck}(h:Clean s)(no:Int):s.write no=(0,s):=by
 unfold Ck.write
 rw[if_pos (h.Ca no)]
theorem Clean.release{s:Ck}(h:Clean s)(no:Int):(s.release no).2.d=s.d∧(s.release no).2.nm=s.nm∧Clean (s.release no).2:=by
 unfold Ck.release
 rw[h.write no,if_pos (show ((0:Int),s).1=0 from rfl)]
 refine ⟨rfl,rfl,fun n a=>?_⟩
 have a:n∈(if Df s.its no=true then E5 s.its no else s.its):=a
 split at a
 ·exact h n (List.mem_filter.1 a).1
 exact h n a
theorem Clean.room{s:Ck}(h:Clean s):s.room.2.d=s.d∧s.room.2.nm=s.nm∧Clean s.room.2:=by
 unfold Ck.room
 split
 ·exact ⟨rfl,rfl,h⟩
 split
 ·exact ⟨rfl,rfl,h⟩
 exact h.release _
theorem Clean.take{s:Ck}(h:Clean s)(no:Int)(b:List UInt8):(s.take no b).2.d=s.d∧(s.take no b).2.nm=s.nm∧Clean (s.take no b).2:=by
 obtain ⟨c,e,f⟩:=h.room
 unfold Ck.take
 split
 ·refine ⟨c,e,fun n a=>?_⟩
  rcases List.mem_append.1 a with a|a
  ·exact f n a
  simp at a;subst a;rfl
 exact ⟨c,e,f⟩
theorem Clean.get{s:Ck}(h:Clean s)(no:Int):(s.get no).2.2.d=s.d∧(s.get no).2.2.nm=s.nm∧Clean (s.get no).2.2:=by
 unfold Ck.get
 split
 ·exact ⟨rfl,rfl,h⟩
 split
 ·exact ⟨rfl,rfl,fun n e=>h n ((Bs s.its no).mem_iff.1 e)⟩
 obtain ⟨a,b,c⟩:=h.take no (s.d.read s.nm (no*256) 256).2
 simp only
 split
 ·split
  ·exact ⟨a,b,c⟩
  exact ⟨a,b,c⟩
 exact ⟨rfl,rfl,h⟩
def fileOf(s:TS):List UInt8:=Au s.ck.d s.ck.nm
theorem Good.pf{T:Nat}{s:Ck}(g:Good T s):Pf.Good T s:=⟨⟨g.BK.Mp,g.BK.nf⟩,g.pins,g.clean,g.top⟩
theorem Lp{T m:Nat}{s:Ck}(ok:Bi m s)(g:Pf.Good T s)(h:Clean s){k:Int}{b:List UInt8}(hb:Has s k b):Bg (Au s.d s.nm) k b:=by
 rcases hb with hb|hb
 ·have c:Bf s.its k=true:=by rw[ok.same k,hb];rfl
  obtain ⟨n,a,e⟩:=List.mem_map.1 (Bb.1 c)
  subst e
  exact g.clean n a (h n a) b hb
 exact hb.2
theorem UM{T m:Nat}{s:Ck}(ok:Bi m s)(g:Pf.Good T s)(h:Clean s){k:Int}{b:List UInt8}(hb:Bg (Au s.d s.nm) k b):Has s k b:=by
 cases hp:AP k s.BU with
 |none=>exact .inr ⟨hp,hb⟩
 | some c =>
  have a:=Lp ok g h (.inl hp)
  have:c=b:=by rw[←a.2.2,hb.2.2]
  exact .inl (by rw[hp,this])
theorem WD{T m : Nat}{s : Ck}(ok : Bi m s)(g : Pf.Good T s)(up : s.d.down = false)(h : Clean s ∨ (s.its.length : Int) < s.cap)(no : Int) : (s.get no).1 = 0 ∨ (s.get no).1 = 1 ∨ (s.get no).1 = 6 := by
 unfold Ck.get
 by_cases a:no<0∨1048576≤no
 ·rw[if_pos a];exact .inr (.inl rfl)
 rw[if_neg a]
 cases l:Bf s.its no with
 |true=>rw[if_pos rfl];exact .inl rfl
 | false =>
  rw[if_neg (by simp)]
  have b : s.room.1 = 0 := by
   unfold Ck.room
   by_cases f:(s.BU.length:Int)<s.cap
   · rw[if_pos f]
   rw[if_neg f]
   rcases h with h|h
   · cases j:L8 s.its with
     | none =>
       exfalso
       have a:=ok.cap
       have k:=ok.len
       have i:0<s.its.length:=by omega
       obtain ⟨n,e⟩:=List.exists_mem_of_length_pos i
       have:=List.find?_eq_none.1 j n e
       simp[g.pins n e] at this
     | some n =>
       simp only
       unfold Ck.release
       rw[h.write,if_pos rfl]
   have:=ok.len
   omega
  rcases Pf.Ku g.BK (no:=no) (by omega) with ⟨_,hr⟩|⟨_,hr⟩|⟨c,_⟩
  · simp only[hr]
    rw[if_pos trivial]
    unfold Ck.take
    rw[if_pos b]
    exact .inl rfl
  · simp only
    rw[if_neg (by rcases hr with h|h<;>rw[h]<;>decide)]
    refine .inr (.inr ?_)
    rcases hr with h|h
    · rw[if_pos h]
    rw[if_neg (by rw[h];decide),h]
  rw[up] at c;cases c
theorem get_none{T m:Nat}{s:Ck}(ok:Bi m s)(g:Pf.Good T s)(up:s.d.down=false)(h:Clean s){no:Int}(e:0≤no)(i:no<1048576)(hl:(Au s.d s.nm).length<256*no.toNat+256):(s.get no).1=6:=by
 have a:Bf s.its no=false:=by
  cases a:Bf s.its no with
  |false=>rfl
  | true =>
    obtain ⟨b,hb,_⟩:=ok.key a
    have:=(Lp ok g h (.inl hb)).2.1
    omega
 unfold Ck.get
 rw[if_neg (by omega),a]
 simp only[Bool.false_eq_true,if_false]
 rcases Pf.Ku g.BK e with ⟨f,_⟩|⟨_,hr|hr⟩|⟨c,_⟩
 · omega
 · rw[hr];rfl
 · rw[hr];rfl
 rw[up] at c;cases c
def Xy(o:Option Nd)(s:TS):DR TS Nd:=match o with
 |some n=> .ok n s
 |none=> .fault 13 s
structure Wb (V:Int→Option Nd) (s:Ck):Prop where
 none:s.d.get s.nm=none
 small:(s.its.length:Int)<s.cap
 view: ∀p,V p=if p<1 then Option.none else match AP p s.BU with|some b=>CV p b|Option.none=>Option.none
theorem Wb.get{V:Int→Option Nd}{m:Nat}{s:Ck}(h:Wb V s)(ok:Bi m s)(b:s.d.down=false)(no:Int):(s.get no).2.2.d=s.d∧Wb V (s.get no).2.2∧(AP no s.BU=Option.none→(s.get no).1=1∨(s.get no).1=6):=by
 unfold Ck.get
 split
 ·exact ⟨rfl,h,fun _=> .inl rfl⟩
 split
 ·next hh=>
  refine ⟨rfl,⟨h.none,by rw[(Bs s.its no).length_eq];exact h.small,h.view⟩,fun e=>?_⟩
  rw[ok.same,e] at hh
  cases hh
 have a:=Hq ok.nm b h.none
 have hr:s.d.read s.nm (no*256) 256=(6,[]):=by unfold Dk.read;rw[if_pos (by rw[a];decide),a]
 simp only[hr]
 exact ⟨rfl,h,fun _=> .inr rfl⟩
variable [G1]
structure Yg (V:Int→Option Nd) (m:Nat) (s:TS):Prop where
 ts:Gt s
 AG:Pf.Good Oe s.ck
 up:s.ck.d.down=false
 look:(Clean s.ck∧V=Du (fileOf s))∨Wb V s.ck
 left:m≤Ap s
theorem Yg.out{V:Int→Option Nd}{m:Nat}{s:TS}(h:Yg V m s){p:Int}(hp:p<1):V p=none:=by
 rcases h.look with ⟨_,a⟩|a
 ·rw[a];unfold Du;rw[if_pos (.inl hp)]
 rw[a.view,if_pos hp]
theorem Yg.Z'{V:Int→Option Nd}{s:TS}(h:Yg V 0 s)(z:s.ops<Bu){p:Int}(hp:p≠0): ∃s',Yg V 0 s'∧s'.ops=s.ops+2∧s'.sp=s.sp∧s'.ck.d=s.ck.d∧Ah p s=Xy (V p) s':=by
 have l:=h.ts.get p z
 have y:=WD h.ts.ok h.AG h.up (h.look.elim (fun x=> .inl x.1) (fun x=> .inr x.small)) p
 have a:0≤Ap ⟨(s.ck.get p).2.2,s.sp,s.ops+2⟩:=Nat.zero_le _
 rcases h.look with ⟨n,c⟩|k
 ·obtain ⟨m,c2,t⟩:=n.get p
  have i:(s.ck.get p).2.2.d.down=false:=by rw[m];exact h.up
  have g: ∀q:TS,q.ck=(s.ck.get p).2.2→(Clean q.ck∧V=Du (fileOf q))∨Wb V q.ck:=fun q e=> .inl ⟨by rw[e];exact t,by
   have:fileOf q=fileOf s:=by unfold fileOf;rw[e,m,c2]
   rw[this];exact c⟩
  rw[FZ z]
  by_cases hr:p<0∨1048576≤p
  · have e:s.ck.get p=(1,[],s.ck):=by unfold Ck.get;rw[if_pos hr]
    have j:V p=none:=by rw[c];unfold Du;rw[if_pos (by omega)]
    refine ⟨_,⟨l,by rw[e];exact h.AG,i,g _ rfl,a⟩,rfl,rfl,m,?_⟩
    rw[j,e]
    simp[Xy]
  have o:0≤p:=by omega
  have u:p<1048576:=by omega
  have r:=Pf.Iy h.ts.ok h.AG o u
  refine ⟨_,⟨l,r.AG,i,g _ rfl,a⟩,rfl,rfl,m,?_⟩
  by_cases hl:256*p.toNat+256≤(Au s.ck.d s.ck.nm).length
  · have D:Bg (Au s.ck.d s.ck.nm) p (((Au s.ck.d s.ck.nm).drop (256*p.toNat)).take 256):=⟨o,hl,rfl⟩
    rcases r.O' _ (UM h.ts.ok h.AG n D) with e|e|⟨v,w⟩
    · omega
    · omega
    rw[if_pos v,w]
    have j:V p=CV p (((Au s.ck.d s.ck.nm).drop (256*p.toNat)).take 256):=by
     rw[c];unfold Du fileOf;rw[if_neg (by omega)]
    rw[j]
    cases CV p (((Au s.ck.d s.ck.nm).drop (256*p.toNat)).take 256)<;>rfl
  have e:=get_none h.ts.ok h.AG h.up n o u (by omega)
  rw[if_neg (by rw[e];omega),if_pos (.inl e)]
  have j:V p=none:=by rw[c];unfold Du fileOf;rw[if_pos (by omega)]
  rw[j]
  rfl
 obtain ⟨m,t,B⟩:=k.get h.ts.ok h.up p
 have i:(s.ck.get p).2.2.d.down=false:=by rw[m];exact h.up
 rw[FZ z]
 by_cases hr:p<0∨1048576≤p
 ·have e:s.ck.get p=(1,[],s.ck):=by unfold Ck.get;rw[if_pos hr]
  have G:AP p s.ck.BU=none:=by
   cases f:AP p s.ck.BU with
   |none=>rfl
   |some b=>have:=h.ts.ok.Ay _ (IC f);simp only at this;omega
  have j:V p=none:=by rw[k.view,G];split<;>rfl
  refine ⟨_,⟨l,by rw[e];exact h.AG,i,.inr t,a⟩,rfl,rfl,m,?_⟩
  rw[j,e]
  simp[Xy]
 have o:0≤p:=by omega
 have u:p<1048576:=by omega
 have r:=Pf.Iy h.ts.ok h.AG o u
 refine ⟨_,⟨l,r.AG,i,.inr t,a⟩,rfl,rfl,m,?_⟩
 cases f:AP p s.ck.BU with
 | none =>
  have j:V p=none:=by rw[k.view,f];split<;>rfl
  rw[j]
  rcases B f with e|e
  · rw[if_neg (by rw[e];omega),if_pos (.inr e)];rfl
  rw[if_neg (by rw[e];omega),if_pos (.inl e)];rfl
 | some b =>
  have j:V p=CV p b:=by rw[k.view,f,if_neg (by omega)]
  rcases r.O' _ (.inl f) with e|e|⟨v,w⟩
  · omega
  · omega
  rw[if_pos v,w,j]
  cases CV p b<;>rfl
