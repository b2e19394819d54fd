/- censusSound holds for every input. No condition. (part 37) -/
import Derived.Test.YtfhbmblbidcmmaaGreatWa35
import Derived.Test.YtfhbmblbidcmmaaGreatWa36
import Derived.Test.YtfhbmblbidcmmaaGreatWa26
set_option linter.all false
set_option maxRecDepth 100000
set_option maxHeartbeats 3200000
namespace Go.Proofs.YtfhbmblbidcmmaaGreat
open Go.Sl Go.Dk Go.Tr
def Clean(s:Ck):Prop:= ∀n∈s.its,n.J1=false
theorem Clean.CD{s:Ck}(h:Clean s)(no:Int):s.CD no=false:=by
 rw[Bool.eq_false_iff]
 intro a
 obtain ⟨n,b,hm,_⟩:=Hj.1 a
 rw[h n b] at hm
 cases hm
theorem Clean.write{s:Ck}(h:Clean s)(no:Int):s.write no=(0,s):=by
 unfold Ck.write
 rw[if_pos (h.CD no)]
theorem Clean.release{s:Ck}(h:Clean s)(no:Int):(s.release no).2.d=s.d∧(s.release no).2.nm=s.nm∧Clean (s.release no).2:=by
 unfold Ck.release
 rw[h.write no,if_pos (show ((0:Int),s).1=0 from rfl)]
 refine ⟨rfl,rfl,fun n a=>?_⟩
 split at a
 ·exact h n (List.mem_filter.1 a).1
 exact h n a
theorem Clean.room{s:Ck}(h:Clean s):s.room.2.d=s.d∧s.room.2.nm=s.nm∧Clean s.room.2:=by
 unfold Ck.room
 split
 ·simp_all
 split
 ·simp_all
 exact h.release _
theorem Clean.take{s:Ck}(h:Clean s)(no:Int)(b:List UInt8):(s.take no b).2.d=s.d∧(s.take no b).2.nm=s.nm∧Clean (s.take no b).2:=by
 obtain ⟨h1,c,e⟩:=h.room
 unfold Ck.take
 split
 ·refine ⟨h1,c,fun n a=>?_⟩
  rcases List.mem_append.1 a with a|a
  ·exact e n a
  simp_all
 simp_all
theorem Clean.get{s:Ck}(h:Clean s)(no:Int):(s.get no).2.2.d=s.d∧(s.get no).2.2.nm=s.nm∧Clean (s.get no).2.2:=by
 unfold Ck.get
 split
 ·simp_all
 split
 ·exact ⟨rfl,rfl,fun n c=>h n ((BO s.its no).mem_iff.1 c)⟩
 obtain ⟨h1,a,b⟩:=h.take no (s.d.read s.nm (no*256) 256).2
 simp only
 split
 ·split
  ·exact ⟨h1,a,b⟩
  simp_all
 simp_all
def fileOf(s:TS):List UInt8:=A0 s.ck.d s.ck.nm
theorem Good.pf{T:Nat}{s:Ck}(g:Good T s):Pf.Good T s:=⟨⟨g.BU.Aq,g.BU.nf⟩,g.pins,g.clean,g.top⟩
theorem Qx{T m:Nat}{s:Ck}(ok:Bm m s)(g:Pf.Good T s)(h:Clean s){k:Int}{b:List UInt8}(hb:Has s k b):BR (A0 s.d s.nm) k b:=by
 rcases hb with hb|hb
 ·have c:Bx s.its k=true:=by rw[ok.same k,hb];rfl
  obtain ⟨n,a,e⟩:=List.mem_map.1 (Br.1 c)
  subst e
  exact g.clean n a (h n a) b hb
 simp_all
theorem Y6{T m:Nat}{s:Ck}(ok:Bm m s)(g:Pf.Good T s)(h:Clean s){k:Int}{b:List UInt8}(hb:BR (A0 s.d s.nm) k b):Has s k b:=by cases hp:BI k s.CV with
 |none=>exact .inr ⟨hp,hb⟩
 | some c =>
  have h1:=Qx ok g h (.inl hp)
  have:c=b:=by rw[←h1.2.2,hb.2.2]
  exact .inl (by rw[hp,this])
theorem l6{T m : Nat}{s : Ck}(ok : Bm m s)(g : Pf.Good T s)(up : s.d.down = false)(h : Clean s ∨ (s.its.length : Int) < s.cap)(no : Int) : (s.get no).1 = 0 ∨ (s.get no).1 = 1 ∨ (s.get no).1 = 6 := by
 unfold Ck.get
 by_cases h1:no<0∨1048576≤no
 ·rw[if_pos h1];exact .inr (.inl rfl)
 rw[if_neg h1]
 cases k:Bx s.its no with
 |true=>rw[if_pos rfl];exact .inl rfl
 | false =>
  rw[if_neg (by simp)]
  have a : s.room.1 = 0 := by
   unfold Ck.room
   by_cases e:(s.CV.length:Int)<s.cap
   · rw[if_pos e]
   rw[if_neg e]
   rcases h with h|h
   · cases i:NQ s.its with
     | none =>
       exfalso
       have h1:=ok.cap
       have j:=ok.len
       have f:0<s.its.length:=by omega
       obtain ⟨n,c⟩:=List.exists_mem_of_length_pos f
       have:=List.find?_eq_none.1 i n c
       simp[g.pins n c] at this
     | some n =>
       simp only
       unfold Ck.release
       rw[h.write,if_pos rfl]
   have:=ok.len
   omega
  rcases Pf.Lp g.BU (no:=no) (by omega) with ⟨_,hr⟩|⟨_,hr⟩|⟨b,_⟩
  · simp only[hr]
    rw[if_pos trivial]
    unfold Ck.take
    rw[if_pos a]
    exact .inl rfl
  · simp only
    rw[if_neg (by rcases hr with h|h<;>rw[h]<;>decide)]
    refine .inr (.inr ?_)
    rcases hr with h|h
    · rw[if_pos h]
    rw[if_neg (by rw[h];decide),h]
  rw[up] at b;cases b
theorem get_none{T m:Nat}{s:Ck}(ok:Bm m s)(g:Pf.Good T s)(up:s.d.down=false)(h:Clean s){no:Int}(h0:0≤no)(h1:no<1048576)(hl:(A0 s.d s.nm).length<256*no.toNat+256):(s.get no).1=6:=by
 have a:Bx s.its no=false:=by cases a:Bx s.its no with
  |false=>rfl
  | true =>
    obtain ⟨b,hb,_⟩:=ok.key a
    have:=(Qx ok g h (.inl hb)).2.1
    omega
 unfold Ck.get
 rw[if_neg (by omega),a]
 rcases Pf.Lp g.BU h0 with ⟨c,_⟩|⟨_,hr|hr⟩|⟨e,_⟩
 · omega
 · simp_all
 · simp_all
 simp_all
def UO(o:Option Nd)(s:TS):Fu TS Nd:=match o with
 |some n=> .ok n s
 |none=> .fault 13 s
structure ZW (V:Int→Option Nd) (s:Ck):Prop where
 none:s.d.get s.nm=none
 small:(s.its.length:Int)<s.cap
 view: ∀p,V p=if p<1 then Option.none else match BI p s.CV with|some b=>CU p b|Option.none=>Option.none
theorem ZW.get{V:Int→Option Nd}{m:Nat}{s:Ck}(h:ZW V s)(ok:Bm m s)(b:s.d.down=false)(no:Int):(s.get no).2.2.d=s.d∧ZW V (s.get no).2.2∧(BI no s.CV=Option.none→(s.get no).1=1∨(s.get no).1=6):=by
 unfold Ck.get
 split
 ·simp_all
 split
 ·next hh=>
  refine ⟨rfl,⟨h.none,by rw[(BO s.its no).length_eq];exact h.small,h.view⟩,fun e=>?_⟩
  rw[ok.same,e] at hh
  cases hh
 have a:=I7 ok.nm b h.none
 have hr:s.d.read s.nm (no*256) 256=(6,[]):=by unfold Dk.read;rw[if_pos (by rw[a];decide),a]
 simp_all
variable [Em]
structure D2 (V:Int→Option Nd) (m:Nat) (s:TS):Prop where
 ts:NP s
 Bn:Pf.Good VA s.ck
 up:s.ck.d.down=false
 look:(Clean s.ck∧V=Aw (fileOf s))∨ZW V s.ck
 left:m≤AM s
theorem D2.out{V:Int→Option Nd}{m:Nat}{s:TS}(h:D2 V m s){p:Int}(hp:p<1):V p=none:=by
 rcases h.look with ⟨_,h1⟩|h1
 ·rw[h1];unfold Aw;rw[if_pos (.inl hp)]
 simp_all[h1.view]
theorem D2.read{V:Int→Option Nd}{m:Nat}{s:TS}(h:D2 V (m+1) s){p:Int}(hp:p≠0): ∃s',D2 V m s'∧s'.sp=s.sp∧s'.ck.d=s.ck.d∧Ak p s=UO (V p) s':=by
 have v:s.ops<BG:=by
  have:=h.left
  unfold AM at this
  omega
 have l:=h.ts.get p v
 have u:=l6 h.ts.ok h.Bn h.up (h.look.elim (fun x=> .inl x.1) (fun x=> .inr x.small)) p
 have a:m≤AM ⟨(s.ck.get p).2.2,s.sp,s.ops+2⟩:=by
  have:=h.left
  unfold AM at this⊢
  simp only
  omega
 rcases h.look with ⟨n,c⟩|k
 · obtain ⟨c1,c2,c3⟩:=n.get p
   have i:(s.ck.get p).2.2.d.down=false:=by rw[c1];exact h.up
   have g: ∀q:TS,q.ck=(s.ck.get p).2.2→(Clean q.ck∧V=Aw (fileOf q))∨ZW V q.ck:=fun q e=> .inl ⟨by rw[e];exact c3,by
    have:fileOf q=fileOf s:=by unfold fileOf;rw[e,c1,c2]
    rw[this];exact c⟩
   rw[JR v]
   by_cases hr:p<0∨1048576≤p
   · have e:s.ck.get p=(1,[],s.ck):=by unfold Ck.get;rw[if_pos hr]
     have j:V p=none:=by rw[c];unfold Aw;rw[if_pos (by omega)]
     refine ⟨_,⟨l,by rw[e];exact h.Bn,i,g _ rfl,a⟩,rfl,c1,?_⟩
     rw[j,e]
     simp[UO]
   have h0:0≤p:=by omega
   have h1:p<1048576:=by omega
   have o:=Pf.Ly h.ts.ok h.Bn h0 h1
   refine ⟨_,⟨l,o.Bn,i,g _ rfl,a⟩,rfl,c1,?_⟩
   by_cases hl:256*p.toNat+256≤(A0 s.ck.d s.ck.nm).length
   · have w:BR (A0 s.ck.d s.ck.nm) p (((A0 s.ck.d s.ck.nm).drop (256*p.toNat)).take 256):=⟨h0,hl,rfl⟩
     rcases o.lH _ (Y6 h.ts.ok h.Bn n w) with e|e|⟨r,t⟩
     · omega
     · omega
     rw[if_pos r,t]
     have j:V p=CU p (((A0 s.ck.d s.ck.nm).drop (256*p.toNat)).take 256):=by
      rw[c];unfold Aw fileOf;rw[if_neg (by omega)]
     rw[j]
     cases CU p (((A0 s.ck.d s.ck.nm).drop (256*p.toNat)).take 256)<;>rfl
   have e:=get_none h.ts.ok h.Bn h.up n h0 h1 (by omega)
   rw[if_neg (by rw[e];omega),if_pos (.inl e)]
   have j:V p=none:=by rw[c];unfold Aw fileOf;rw[if_pos (by omega)]
   rw[j]
   rfl
 obtain ⟨c1,c3,c4⟩:=k.get h.ts.ok h.up p
 have i:(s.ck.get p).2.2.d.down=false:=by rw[c1];exact h.up
 rw[JR v]
 by_cases hr:p<0∨1048576≤p
 · have e:s.ck.get p=(1,[],s.ck):=by unfold Ck.get;rw[if_pos hr]
   have y:BI p s.ck.CV=none:=by
    cases f:BI p s.ck.CV with
    |none=>rfl
    |some b=>have:=h.ts.ok.Au _ (J6 f);simp only at this;omega
   have j:V p=none:=by rw[k.view,y];split<;>rfl
   refine ⟨_,⟨l,by rw[e];exact h.Bn,i,.inr c3,a⟩,rfl,c1,?_⟩
   rw[j,e]
   simp[UO]
 have h0:0≤p:=by omega
 have h1:p<1048576:=by omega
 have o:=Pf.Ly h.ts.ok h.Bn h0 h1
 refine ⟨_,⟨l,o.Bn,i,.inr c3,a⟩,rfl,c1,?_⟩
 cases f:BI p s.ck.CV with
 | none =>
   have j:V p=none:=by rw[k.view,f];split<;>rfl
   rw[j]
   rcases c4 f with e|e
   · rw[if_neg (by rw[e];omega),if_pos (.inr e)];rfl
   rw[if_neg (by rw[e];omega),if_pos (.inl e)];rfl
 | some b =>
   have j:V p=CU p b:=by rw[k.view,f,if_neg (by omega)]
   rcases o.lH _ (.inl f) with e|e|⟨r,t⟩
   · omega
   · omega
   rw[if_pos r,t,j]
   cases CU p b<;>rfl
end Go.Proofs.YtfhbmblbidcmmaaGreat
namespace Go.Proofs.YtfhbmblbidcmmaaGreat
open Go.RowKit Go.Sl Go.Dk Go.Tr
open Go.PS (A9)
abbrev Io:TypeId:=159
abbrev Li:TypeId:=248
abbrev Qr:TypeId:=249
abbrev Qt:TypeId:=41
def Xu:Value:=WZ Ks
instance p9:PU Tryz.prog Li Int A9 (.agg #[.int .i64 0,.int .i64 0,.int .i64 0,.int .i64 0,.int .i64 0,.int .i64 0,.int .i64 0,.int .i64 0,.int .i64 0,.int .i64 0]):=⟨CN,Io,Jz,Tryz.underlying248,fun w=>by kernel_rfl⟩
theorem Se(w:World)(M:Nat)(k:Int){A:Ab}{ms:List (Int×Value)}[h:AR A w][h2:DK A M A9 ms]:(Instr.lookup Li (.map (some M)) (.int .i64 k) true).run Tryz.prog w= .ok (.tuple #[(Cq k ms).getD Xu,.bool (Cq k ms).isSome]) w:=Ub p9 w M k
theorem S1(w:World)(M:Nat)(k:Int)(v:Value){A:Ab}{ms:List (Int×Value)}[h:AR A w][h2:DK A M A9 ms]:(Instr.mapUpdate Li (.map (some M)) (.int .i64 k) v).run Tryz.prog w= .ok () (Gn Tryz.prog Li M (A9 k) v w):=S2 p9 w M k v
instance{w:World}{M:Nat}{k:Int}{v:Value}{A A':Ab}{ms:List (Int×Value)}[h:AR A w][h2:DK A M A9 ms][h3:K8 A M A9 (CT k v ms) A']:AR A' (Gn Tryz.prog Li M (A9 k) v w):=S3 p9
def GF(a c b M:Nat)(h:Th)(K:List (Int×Sn)):Ab:=Sl.block a Li [.map (some M)]*(Sl.block c Qt [.pointer (some ⟨h.t,0,none⟩)]*(Sl.block b Qr [.func (Fn.func 128) #[] #[.pointer (some ⟨a,0,none⟩),.pointer (some ⟨c,0,none⟩),.pointer (some ⟨b,0,none⟩)]]*mp A9 M (kn K)))
theorem CI{A R R1 R2 d e f:Ab}{w:World}[AR A w](h:Th)(s:TS)(a c b M:Nat)(K:List (Int×Sn))(F:Ab)[Take A (Ad h s) R][Take R (Sl.block a Li [.map (some M)]) R1][Take R1 (Sl.block c Qt [.pointer (some ⟨h.t,0,none⟩)]) R2][Take R2 (Sl.block b Qr [.func (Fn.func 128) #[] #[.pointer (some ⟨a,0,none⟩),.pointer (some ⟨c,0,none⟩),.pointer (some ⟨b,0,none⟩)]]) d][Take d (mp A9 M (kn K)) e][Take e F f]:Sat (Ad h s*(GF a c b M h K*F)) w:=
 (DZ (Ad h s) (Sl.block a Li [.map (some M)]) (Sl.block c Qt [.pointer (some ⟨h.t,0,none⟩)]) (Sl.block b Qr [.func (Fn.func 128) #[] #[.pointer (some ⟨a,0,none⟩),.pointer (some ⟨c,0,none⟩),.pointer (some ⟨b,0,none⟩)]]) (mp A9 M (kn K)) F).eq (by unfold GF;ac_rfl)
section
variable [Em]
def V8(h:Th)(V:Int→Option Nd)(m:Nat)(s:TS)(no:Int)(F:Ab)(e:Ending)(a:World):Prop:= ∃s',D2 V m s'∧s'.sp=s.sp∧s'.ck.d=s.ck.d∧
 ((∃n v B,V no=some n∧e= .returned v∧AN B v n∧Sat (Ad h s'*(B*F)) a)∨(V no=none∧e= .panicked (CM 13)∧Sat (Ad h s'*F) a))
theorem SA(h:Th)(V:Int→Option Nd)(m:Nat)(s:TS)(no:Int)(F:Ab)(w:World)(l:D2 V (m+1) s)(hp:no≠0)(hs:Sat (Ad h s*F) w):
 Calls Tryz.prog 129 #[.pointer (some ⟨h.t,0,none⟩),.int .i64 no] w (V8 h V m s no F):=by
 obtain ⟨s',h1,c,d,f⟩:=l.read hp
 have g:=Cu h s no F w hs (by rw[f];cases V no<;>simp[UO])
 rw[f] at g
 refine g.mono fun e o a=>?_
 cases b:V no with
 | none =>
  rw[b] at a
  exact ⟨s',h1,c,d,.inr ⟨b,a.1,a.2⟩⟩
 | some n =>
  rw[b] at a
  obtain ⟨v,B,i,⟨j,_⟩,k⟩:=a
  exact ⟨s',h1,c,d,.inl ⟨n,v,B,b,i,j,k⟩⟩
def NW(V:Int→Option Nd)(N:Nat)(h:Th)(b g c M f m:Nat)(s:TS)(K:List (Int×Sn))(no:Int)(top:Bool)(F:Ab)(e:Ending)(i:World):Prop:= ∃s' a,Sat (Ad h s'*(GF b g c M h a*F)) i∧s'.sp=s.sp∧s'.ck.d=s.ck.d∧
 ((∃ y m', e = .returned (WZ y) ∧ MU V no top y ∧ (K = [] → y.h < f) ∧ Ml V a ∧ (∀ q ∈ a, q ∈ K ∨ q.2.h ≤ y.h) ∧ D2 V m' s' ∧ m + 13 * fr N a ≤ m' + 13 * fr N K + (if top then 13 else 0)) ∨
  (e= .panicked (CM 13)∧DW V f no top=none∧D2 V 0 s'))
def Td(f:Nat):Prop:= ∀(V:Int→Option Nd)(N:Nat)(h:Th)(s:TS)(m:Nat)(K:List (Int×Sn))(no:Int)(top:Bool)(a c b M:Nat)(F:Ab)(w:World),f≤13→no≠0→Ml V K→(∀p n,V p=some n→may n=true∧p<N)→D2 V m s→13*fr N K+13*(f+1)≤m→
 Sat (Ad h s*(GF a c b M h K*F)) w→Calls Tryz.prog 128 #[.int .i64 no,.bool top,.int .i64 (13-(f:Int)),.pointer (some ⟨a,0,none⟩),.pointer (some ⟨c,0,none⟩),.pointer (some ⟨b,0,none⟩)] w (NW V N h a c b M f m s K no top F)
theorem D2.less{V:Int→Option Nd}{m m':Nat}{s:TS}(h:D2 V m s)(k:m'≤m):D2 V m' s:=⟨h.ts,h.Bn,h.up,h.look,Nat.le_trans k h.left⟩
theorem Ua(f:Nat)(V:Int→Option Nd)(N:Nat)(h:Th)(s:TS)(m:Nat)(K:List (Int×Sn))(no:Int)(b d c M:Nat)(F:Ab)(w:World)(j:Ml V K)(k:D2 V m s)(y:Sn)(hy:Gx no K=some y)
 (hs:Sat (Ad h s*(GF b d c M h K*F)) w):Calls Tryz.prog 128 #[.int .i64 no,.bool false,.int .i64 (13-(f:Int)),.pointer (some ⟨b,0,none⟩),.pointer (some ⟨d,0,none⟩),.pointer (some ⟨c,0,none⟩)] w (NW V N h b d c M f m s K no false F):=by
 have l:Aside (MU V no false y):=j.get hy
 have a:K≠ []:=fun e=>by
  rw[e] at hy
  cases hy
 have g:=As a
 have n:=As j
 have o:=As k
 obtain ⟨G,D,⟨p,r,t,u⟩,⟨v,b2,x,z⟩⟩:=y
 unfold GF at hs
 haveI:=hs.i
 have B:(Instr.lookup Li (.map (some M)) (.int .i64 no) true).run Tryz.prog (w.alloc (.cells #[.int .i64 0,.int .i64 0,.int .i64 0,.int .i64 0,.int .i64 0,.int .i64 0,.int .i64 0,.int .i64 0,.int .i64 0,.int .i64 0] Io))= .ok (.tuple #[.agg #[.int .i64 G,.int .i64 D,.int .i64 p,.int .i64 r,.int .i64 t,.int .i64 u,.int .i64 v,.int .i64 b2,.int .i64 x,.int .i64 z],.bool true]) (w.alloc (.cells #[.int .i64 0,.int .i64 0,.int .i64 0,.int .i64 0,.int .i64 0,.int .i64 0,.int .i64 0,.int .i64 0,.int .i64 0,.int .i64 0] Io)):=by
  rw[Se,Oh,hy]
  rfl
 clear j k hy hs a
 go_enter Tryz.func128,Tryz.ntmps128
 go_wp2
 go_returns
 refine ⟨s,K,?_,rfl,rfl,.inl ⟨_,m,rfl,l.out,fun e=>absurd e g.out,n.out,fun q hq=> .inl hq,o.out,by simp⟩⟩
 exact CI h s b d c M K F
