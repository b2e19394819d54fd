/- treeFails holds for every input. No condition. (part 6) -/
import Derived.Test.YtfhbmblbidcmmaaGreatYa1
import Derived.Test.YtfhbmblbidcmmaaGreatYa5
import Derived.Test.YtfhbmblbidcmmaaGreatProg
import Derived.WalkLawsBesides
import Derived.BigQuiet
set_option linter.all false
set_option maxHeartbeats 400000
namespace Go.Proofs.YtfhbmblbidcmmaaGreat
open Go.RowKit Go.Sl Go.Dk
abbrev TD:TypeId:=151
abbrev TF:TypeId:=154
abbrev TP:TypeId:=215
abbrev TB:TypeId:=5
abbrev Zx:TypeId:=148
abbrev B9:ByteArray→Value:=fun s=>Value.string s
structure Nf where
 b:Nat
 nm:ByteArray
 f:Fl
 nv:Value
 sv:Value
structure Np where
 v:Value
 p:Pc
def Bv(n:Nf):Ac:=Dl n.b TF 3*(Sl.cell n.b 0 n.nv*(Sl.cell n.b 1 n.sv*(Sl.cell n.b 2 (.bool n.f.sure)*(rw TB 1 n.nv (A4 n.f.now)*rw TB 1 n.sv (A4 n.f.safe)))))
def A0:List Nf→Ac
 | []=>1
 |n::l=>Bv n*A0 l
def notNil(v:Value):Prop:= ∃g n c,v= .slice (some ⟨g,0,none⟩) n c
def EX(n:Np):Ac:=match n.p.b with
 |none=>Yb (n.v= .slice none 0 0)
 |some l=>Yb (notNil n.v)*rw TB 1 n.v (A4 l)
def AM:List Np→Ac
 | []=>1
 |n::l=>EX n*AM l
def Qe(n:Np):List Value:= [.string n.p.nm,.int .i64 n.p.pos,n.v]
def B6(ps:List Np):List Value:=ps.flatMap Qe
def CA(n:Nf):ByteArray×Value:=(n.nm,.pointer (some ⟨n.b,0,none⟩))
def BE(ns:List Nf):List (ByteArray×Fl):=ns.map fun n=>(n.nm,n.f)
def B4(ps:List Np):List Pc:=ps.map (·.p)
def Ax(D M:Nat)(pv:Value)(d:Dk):Ac:=
 Dl D TD 7*(Sl.cell D 0 (.int .i64 d.room)*(Sl.cell D 1 (.int .i64 d.changes)*(Sl.cell D 2 (.int .i64 d.left)*(Sl.cell D 3 (.bool d.D5)*(Sl.cell D 4 (.bool d.down)*(Sl.cell D 5 (.map (some M))*Sl.cell D 6 pv))))))
def Cp(pv:Value)(ps:List Np):Ac:=rw TP 3 pv (B6 ps)*AM ps
def AS(D M:Nat)(ns:List Nf)(pv:Value)(ps:List Np)(d:Dk):Ac:=
 Ax D M pv d*(mp B9 M (ns.map CA)*(A0 ns*Cp pv ps))
def Bh(D:Nat)(d:Dk):Ac:=ex fun x:Nat×List Nf×Value×List Np=>Yb (BE x.2.1=d.files∧B4 x.2.2.2=d.AO)*AS D x.1 x.2.1 x.2.2.1 x.2.2.2 d
theorem Sat.C5{D:Nat}{d:Dk}{F:Ac}{w:World}(hs:Sat (Bh D d*F) w): ∃M ns pv ps,BE ns=d.files∧B4 ps=d.AO∧Sat (AS D M ns pv ps d*F) w:=by
 obtain ⟨⟨M,ns,pv,ps⟩,h⟩:=hs.Mu
 rw[Ar] at h
 obtain ⟨⟨a,b⟩,c⟩:=h.Fp
 exact ⟨M,ns,pv,ps,a,b,c⟩
theorem Sat.Ce{D M:Nat}{ns:List Nf}{pv:Value}{ps:List Np}{d:Dk}{F:Ac}{w:World}(a:BE ns=d.files)(b:B4 ps=d.AO)(hs:Sat (AS D M ns pv ps d*F) w):Sat (Bh D d*F) w:=by
 refine Sat.Mv (M,ns,pv,ps) ?_
 rw[Ar]
 exact Sat.KU ⟨a,b⟩ hs
theorem Ba(l1 l2:List Nf):A0 (l1++l2)=A0 l1*A0 l2:=by
 induction l1 with
 |nil=>simp[A0,Am]
 |cons n l a=>simp[A0,a,Ar]
theorem IF(l1 l2:List Np):AM (l1++l2)=AM l1*AM l2:=by
 induction l1 with
 |nil=>simp[AM,Am]
 |cons n l a=>simp[AM,a,Ar]
theorem Hx(l1 l2:List Np):B6 (l1++l2)=B6 l1++B6 l2:=by simp[B6]
theorem Jo(ps:List Np):(B6 ps).length=ps.length*3:=by
 induction ps with
 |nil=>rfl
 |cons n l a=>simp[B6,Qe] at a⊢;omega
theorem R9{ps:List Np}{i:Nat}{x:Np}(h:ps[i]?=some x):(B6 ps)[i*3]?=some (.string x.p.nm)∧(B6 ps)[i*3+1]?=some (.int .i64 x.p.pos)∧(B6 ps)[i*3+2]?=some x.v:=by
 induction ps generalizing i with
 |nil=>simp at h
 | cons n l b =>
  have e:B6 (n::l)=Qe n++B6 l:=by simp[B6]
  rw[e]
  cases i with
  |zero=>simp at h;subst h;simp[Qe]
  | succ i =>
   simp at h
   have:=b h
   have a:(i+1)*3=(Qe n).length+i*3:=by simp[Qe];omega
   rw[a]
   simp only[Nat.add_assoc,List.getElem?_append_right (Nat.le_add_right _ _),Nat.add_sub_cancel_left]
   exact this
theorem EM{ns:List Nf}{k:ByteArray}(h: ∀n∈ns,n.nm≠k):Cb k (BE ns)=none:=by
 induction ns with
 |nil=>rfl
 | cons n l a =>
  show (if k=n.nm then _ else _)=_
  rw[if_neg (fun e=>h n (by simp) e.symm)]
  exact a fun m hm=>h m (by simp[hm])
theorem Ef{l1:List Nf}{n:Nf}{l2:List Nf}(h: ∀m∈l1,m.nm≠n.nm):Cb n.nm (BE (l1++n::l2))=some n.f:=by
 induction l1 with
 |nil=>simp[BE,Cb]
 | cons m l a =>
  show (if n.nm=m.nm then _ else _)=_
  rw[if_neg (fun e=>h m (by simp) e.symm)]
  exact a fun m hm=>h m (by simp[hm])
theorem OJ{ns:List Nf}{k:ByteArray}(f:Fl)(h: ∀n∈ns,n.nm≠k):Dj k f (BE ns)=BE ns++ [(k,f)]:=by
 induction ns with
 |nil=>rfl
 | cons n l a =>
  show (if k=n.nm then _ else _)=_
  rw[if_neg (fun e=>h n (by simp) e.symm)]
  show _::Dj k f (BE l)=_
  rw[a fun m hm=>h m (by simp[hm])];rfl
theorem JJ{l1:List Nf}{n:Nf}{l2:List Nf}(f:Fl)(h: ∀m∈l1,m.nm≠n.nm):Dj n.nm f (BE (l1++n::l2))=BE (l1++ { n with f:=f } ::l2):=by
 induction l1 with
 |nil=>simp[BE,Dj]
 | cons m l a =>
  show (if n.nm=m.nm then _ else _)=_
  rw[if_neg (fun e=>h m (by simp) e.symm)]
  show _::Dj n.nm f (BE (l++n::l2))=_
  rw[a fun m hm=>h m (by simp[hm])];rfl
theorem Nk{ns:List Nf}{k:ByteArray}(h: ∀n∈ns,n.nm≠k):Dx k (ns.map CA)=none:=by
 induction ns with
 |nil=>rfl
 | cons n l a =>
  show (if k=n.nm then _ else _)=_
  rw[if_neg (fun e=>h n (by simp) e.symm)]
  exact a fun m hm=>h m (by simp[hm])
theorem Re{l1:List Nf}{n:Nf}{l2:List Nf}(h: ∀m∈l1,m.nm≠n.nm):Dx n.nm ((l1++n::l2).map CA)=some (.pointer (some ⟨n.b,0,none⟩)):=by
 induction l1 with
 |nil=>simp[CA,Dx]
 | cons m l a =>
  show (if n.nm=m.nm then _ else _)=_
  rw[if_neg (fun e=>h m (by simp) e.symm)]
  exact a fun m hm=>h m (by simp[hm])
theorem Fo(ns:List Nf)(k:ByteArray):(∃l1 n l2,ns=l1++n::l2∧n.nm=k∧ ∀m∈l1,m.nm≠k)∨ ∀n∈ns,n.nm≠k:=by
 induction ns with
 |nil=>exact .inr (by simp)
 | cons m l d =>
  by_cases a:m.nm=k
  ·exact .inl ⟨[],m,l,rfl,a,by simp⟩
  rcases d with ⟨l1,n,l2,rfl,b,c⟩|h
  ·exact .inl ⟨m::l1,n,l2,rfl,b,fun x hx=>by rcases List.mem_cons.1 hx with rfl|hx;exact a;exact c x hx⟩
  exact .inr fun x hx=>by rcases List.mem_cons.1 hx with rfl|hx;exact a;exact h x hx
def J7(D M:Nat)(l1:List Nf)(n:Nf)(l2:List Nf)(pv:Value)(ps:List Np)(d:Dk):Ac:=
 Ax D M pv d*(mp B9 M ((l1++n::l2).map CA)*(A0 l1*(A0 l2*Cp pv ps)))
theorem CI(D M:Nat)(l1:List Nf)(n:Nf)(l2:List Nf)(pv:Value)(ps:List Np)(d:Dk):AS D M (l1++n::l2) pv ps d=Bv n*J7 D M l1 n l2 pv ps d:=by
 unfold AS J7
 rw[Ba,A0]
 ac_rfl
theorem X2{D M:Nat}{l1:List Nf}{n n':Nf}{l2:List Nf}{pv:Value}{ps:List Np}{d:Dk}(hb:n'.b=n.b)(a:n'.nm=n.nm):J7 D M l1 n l2 pv ps d=J7 D M l1 n' l2 pv ps d:=by
 have:(l1++n::l2).map CA=(l1++n'::l2).map CA:=by simp[CA,hb,a]
 unfold J7;rw[this]
theorem JO:Kl Tryz.prog 9 B9:=Qq Tryz.underlying9
theorem Zq(w:World):(zeroValue 147).run Tryz.prog w= .ok (.pointer none) w:=by kernel_rfl
theorem Ez: ∃i,CF Tryz.prog 26 TB 1 1 i (.int .u8 0):=JG Tryz.underlying26 (by kernel_rfl) rfl (by omega)
theorem W3: ∃i,CF Tryz.prog 149 TP 3 48 i (.agg #[.string ByteArray.empty,.int .i64 0,.slice none 0 0]):=JG Tryz.underlying149 (by kernel_rfl) rfl (by omega)
theorem I6{M:Nat}{l1:List Nf}{n:Nf}{l2:List Nf}{F:Ac}{w:World}(hs:Sat (mp B9 M ((l1++n::l2).map CA)*F) w)(h: ∀m∈l1,m.nm≠n.nm):
 (Instr.lookup Zx (.map (some M)) (.string n.nm) false).run Tryz.prog w= .ok (.pointer (some ⟨n.b,0,none⟩)) w:=by
 obtain ⟨o,a,hs⟩:=hs.Ct
 have:=D1 JO Tryz.underlying148 Zq hs.obj a n.nm false
 rw[Re h] at this
 simpa using this
theorem JQ{M:Nat}{ns:List Nf}{k:ByteArray}{F:Ac}{w:World}(hs:Sat (mp B9 M (ns.map CA)*F) w)(a: ∀n∈ns,n.nm≠k):
 (Instr.lookup Zx (.map (some M)) (.string k) false).run Tryz.prog w= .ok (.pointer none) w:=by
 obtain ⟨o,b,hs⟩:=hs.Ct
 have:=D1 JO Tryz.underlying148 Zq hs.obj b k false
 rw[Nk a] at this
 simpa using this
theorem J1(s:ByteArray)(k:Nat)(h:k<s.size)(p:UInt8→Bool):(s.data.toList.take (k+1)).all p=((s.data.toList.take k).all p&&p s[k]):=by
 rw[List.take_succ_eq_append_getElem (by simpa using h),List.all_append]
 simp;rfl
def Gv(c:UInt8):Bool:=decide (97≤c.toNat)&&decide (c.toNat≤122)
theorem LY{s:ByteArray}(h:s.size<1∨16<s.size):named s=false:=by
 unfold named
 rcases h with h|h
 ·simp[show¬1≤s.size by omega]
 simp[show¬s.size≤16 by omega]
theorem Vt{s:ByteArray}(a:1≤s.size)(b:s.size≤16):named s=s.data.toList.all Gv:=by
 unfold named Gv
 simp[a,b]
theorem Jk{s:ByteArray}{k:Nat}(a:k<s.size)(h:Gv s[k]=false):s.data.toList.all Gv=false:=by
 rw[List.all_eq_false]
 exact ⟨s[k],by simp[ByteArray.getElem_eq_getElem_data],by simp[h]⟩
theorem FD(s:ByteArray)(w:World)(hs:s.size≤9223372036854775807):
 Calls Tryz.prog 68 #[.string s] w fun e l=>e= .returned (.bool (named s))∧w=l:=by
 by_cases b:s.size<1∨16<s.size
 · rw[LY b]
   rcases b with h|h
   · have g:s.size<1:=h
     go_enter Tryz.func68,Tryz.ntmps68
     go_wp2
     go_ret
     exact ⟨rfl,rfl⟩
   have g: ¬s.size<1:=by omega
   go_enter Tryz.func68,Tryz.ntmps68
   go_wp2
   go_ret
   exact ⟨rfl,rfl⟩
 have g: ¬s.size<1:=by omega
 have n: ¬16<s.size:=by omega
 have f:Aside (named s=s.data.toList.all Gv):=Vt (by omega) (by omega)
 clear b
 obtain ⟨r,d⟩: ∃r,Aside (named s=r):=⟨_,rfl⟩
 rw[d.out]
 go_enter Tryz.func68,Tryz.ntmps68
 go_wp2
 go_loop [14] (fun i=> ∃k:Nat,k≤s.size∧i= .int .i64 k∧Aside ((s.data.toList.take k).all Gv=true)) (fun i=>s.size-(intOf i).toNat)
 case atStart=>exact ⟨0,Nat.zero_le _,rfl,by simp[Aside]⟩
 obtain ⟨k,o,rfl,A⟩:=hrel
 by_cases a:k<s.size
 · have hb:=s[k].toNat_lt
   by_cases m:s[k].toNat<97
   · have c:Aside (r=false):=by
      have:=Jk a (show Gv s[k]=false by unfold Gv;simp;omega)
      rw[←d.out,f.out];exact this
     go_wp2
     go_ret
     exact ⟨by rw[c.out];rfl,rfl⟩
   by_cases c2:122<s[k].toNat
   · have c:Aside (r=false):=by
      have:=Jk a (show Gv s[k]=false by unfold Gv;simp;omega)
      rw[←d.out,f.out];exact this
     go_wp2
     go_ret
     exact ⟨by rw[c.out];rfl,rfl⟩
   have j:Aside ((s.data.toList.take (k+1)).all Gv=true):=by
    show _=true
    rw[J1 s k a,A.out]
    unfold Gv;simp;omega
   go_wp2
   go_round
   case rel=>exact ⟨k+1,by omega,by go_num,j⟩
   case measure=>simp[intOf];omega
 have c:Aside (r=true):=by
  have:=A.out
  rw[List.take_of_length_le (by simp;omega)] at this
  rw[←d.out,f.out];exact this
 go_wp2
 go_ret
 exact ⟨by rw[c.out];rfl,rfl⟩
theorem Xd{d:Dk}{nm:ByteArray}{t:Bool}(h:named nm=false):d.may nm t=1:=by unfold Dk.may;rw[if_pos h]
theorem Xc{d:Dk}{nm:ByteArray}{t:Bool}(h:named nm=true)(a:d.down=true):d.may nm t=8:=by unfold Dk.may;rw[if_neg (by simp[h]),if_pos a]
theorem Hq{d:Dk}{nm:ByteArray}(h:named nm=true)(a:d.down=false)(b:d.get nm=none):d.may nm true=6:=by unfold Dk.may;simp[h,a,b]
theorem PV{d:Dk}{nm:ByteArray}(h:named nm=true)(a:d.down=false):d.may nm false=0:=by unfold Dk.may;simp[h,a]
theorem FC{d:Dk}{nm:ByteArray}{t:Bool}{f:Fl}(h:named nm=true)(a:d.down=false)(b:d.get nm=some f):d.may nm t=0:=by unfold Dk.may;simp[h,a,b]
theorem GN(d:Dk)(nm:ByteArray)(t:Bool):(d.may nm t=1∧named nm=false)∨(d.may nm t=8∧named nm=true∧d.down=true)∨(d.may nm t=6∧named nm=true∧d.down=false∧t=true∧d.get nm=none)∨
 (d.may nm t=0∧named nm=true∧d.down=false∧(t=true→(d.get nm).isSome=true)):=by
 cases a:named nm with
 |false=>exact .inl ⟨Xd a,rfl⟩
 | true =>
  cases b:d.down with
  |true=>exact .inr (.inl ⟨Xc a b,rfl,rfl⟩)
  | false =>
   cases c:d.get nm with
   | none =>
    cases t with
    |true=>exact .inr (.inr (.inl ⟨Hq a b c,rfl,rfl,rfl,rfl⟩))
    |false=>exact .inr (.inr (.inr ⟨PV a b,rfl,rfl,by simp⟩))
   |some f=>exact .inr (.inr (.inr ⟨FC a b c,rfl,rfl,by simp⟩))
theorem Mz(D M:Nat)(ns:List Nf)(pv:Value)(ps:List Np)(d:Dk)(nm:ByteArray)(t:Bool)(F:Ac)(w:World)(hs:Sat (AS D M ns pv ps d*F) w)(b:BE ns=d.files)(m:nm.size≤9223372036854775807)(hm:d.may nm t≠0):
 Calls Tryz.prog 117 #[.pointer (some ⟨D,0,none⟩),.string nm,.bool t] w fun e l=>e= .returned (.tuple #[.pointer none,.int .i64 (d.may nm t)])∧w=l:=by
 have g:=FD nm w m
 unfold AS Ax at hs
 have o:=hs.c D 4
 have q:=hs.c D 5
 rcases GN d nm t with ⟨a,f⟩|⟨a,f,i⟩|⟨a,f,i,rfl,k⟩|⟨a,_⟩
 ·rw[a]
  rw[f] at g
  clear hs a f hm b
  go_enter Tryz.func117,Tryz.ntmps117
  go_wp2_with (refine g.mono ?_;rintro e l ⟨rfl,rfl⟩)
  go_ret2
  exact ⟨rfl,rfl⟩
 ·rw[a]
  rw[f] at g
  rw[i] at o
  clear hs a f hm b i
  go_enter Tryz.func117,Tryz.ntmps117
  go_wp2_with (refine g.mono ?_;rintro e l ⟨rfl,rfl⟩)
  go_ret2
  exact ⟨rfl,rfl⟩
 ·rw [a]
  rw[f] at g
  rw[i] at o
  have j: ∀n∈ns,n.nm≠nm:=by
   rcases Fo ns nm with ⟨l1,n,l2,rfl,rfl,p⟩|h
   ·unfold Dk.get at k
    rw[←b,Ef p] at k
    cases k
   exact h
  have hl:=JQ (hs.take (mp B9 M (ns.map CA))) j
  clear hs a f hm b i k j
  go_enter Tryz.func117,Tryz.ntmps117
  go_wp2_with (refine g.mono ?_;rintro e l ⟨rfl,rfl⟩)
  go_ret2
  exact ⟨rfl,rfl⟩
 exact absurd a hm
theorem ET(D M:Nat)(l1:List Nf)(n:Nf)(l2:List Nf)(pv:Value)(ps:List Np)(d:Dk)(t:Bool)(F:Ac)(w:World)(hs:Sat (AS D M (l1++n::l2) pv ps d*F) w)(f: ∀m∈l1,m.nm≠n.nm)(g:n.nm.size≤9223372036854775807)(j:named n.nm=true)(i:d.down=false):
 Calls Tryz.prog 117 #[.pointer (some ⟨D,0,none⟩),.string n.nm,.bool t] w fun e k=>e= .returned (.tuple #[.pointer (some ⟨n.b,0,none⟩),.int .i64 0])∧w=k:=by
 have a:=FD n.nm w g
 unfold AS Ax at hs
 have l:=hs.c D 4
 have o:=hs.c D 5
 rw[j] at a
 rw[i] at l
 have hl:=I6 (hs.take (mp B9 M ((l1++n::l2).map CA))) f
 clear hs j i
 cases t
 all_goals
  go_enter Tryz.func117,Tryz.ntmps117
  go_wp2_with (refine a.mono ?_;rintro e k ⟨rfl,rfl⟩)
  go_ret2
  exact ⟨rfl,rfl⟩
theorem KH(D M:Nat)(ns:List Nf)(pv:Value)(ps:List Np)(d:Dk)(nm:ByteArray)(F:Ac)(w:World)(hs:Sat (AS D M ns pv ps d*F) w)(b: ∀n∈ns,n.nm≠nm)(f:nm.size≤9223372036854775807)(i:named nm=true)(g:d.down=false):
 Calls Tryz.prog 117 #[.pointer (some ⟨D,0,none⟩),.string nm,.bool false] w fun e j=>e= .returned (.tuple #[.pointer none,.int .i64 0])∧w=j:=by
 have a:=FD nm w f
 unfold AS Ax at hs
 have k:=hs.c D 4
 have l:=hs.c D 5
 rw[i] at a
 rw[g] at k
 have hl:=JQ (hs.take (mp B9 M (ns.map CA))) b
 clear hs i g
 go_enter Tryz.func117,Tryz.ntmps117
 go_wp2_with (refine a.mono ?_;rintro e j ⟨rfl,rfl⟩)
 go_ret2
 exact ⟨rfl,rfl⟩
theorem Ir(D M:Nat)(pv:Value)(d:Dk)(F:Ac)(w:World)(hs:Sat (Ax D M pv d*F) w)(h:d.stop=true):
 Calls Tryz.prog 149 #[.pointer (some ⟨D,0,none⟩)] w fun e g=>e= .returned (.int .i64 8)∧Sat (Ax D M pv { d with down:=true } *F) g:=by
 unfold Ax at hs
 have c2:=hs.c D 2
 have b:=hs.c D 3
 have i:=hs.c D 4
 have j:=hs.f D 4
 have a:=hs.Et D 4 (.bool true)
 unfold Dk.stop at h
 simp only[Bool.and_eq_true,beq_iff_eq] at h
 rw[h.1] at b
 rw[h.2] at c2
 clear hs h
 go_enter Tryz.func149,Tryz.ntmps149
 go_wp2
 try go_quiet (fail)
 go_wp2
 go_ret
 exact ⟨rfl,a⟩
theorem Lo(D M:Nat)(pv:Value)(d:Dk)(F:Ac)(w:World)(hs:Sat (Ax D M pv d*F) w)(h:d.stop=false)(p: -4611686018427387904≤d.left)(k:d.left≤9223372036854775807)(q:0≤d.changes)(r:d.changes≤4611686018427387904):
 Calls Tryz.prog 149 #[.pointer (some ⟨D,0,none⟩)] w fun e l=>e= .returned (.int .i64 0)∧Sat (Ax D M pv d.Bz*F) l:=by
 unfold Ax at hs
 have m:=hs.c D 1
 have n:=hs.f D 1
 have c2:=hs.c D 2
 have o:=hs.f D 2
 have g:=hs.c D 3
 have a:=(hs.Et D 2 (.int .i64 (d.left-1)))
 have i:=a.c D 1
 have j:=a.f D 1
 have b:=a.Et D 1 (.int .i64 (d.changes+1))
 unfold Dk.stop at h
 clear hs a
 cases ha:d.D5 with
 | true =>
  rw[ha] at h g
  simp only[Bool.true_and] at h
  go_enter Tryz.func149,Tryz.ntmps149
  go_wp2
  try go_quiet (fail)
  go_wp2
  go_ret
  exact ⟨rfl,by unfold Ax Dk.Bz;rw[ha] at b;simpa[ha] using b⟩
 | false =>
  rw[ha] at g
  go_enter Tryz.func149,Tryz.ntmps149
  go_wp2
  try go_quiet (fail)
  go_wp2
  go_ret
  exact ⟨rfl,by unfold Ax Dk.Bz;rw[ha] at b;simpa[ha] using b⟩
