/- treeShape holds for every input. No condition. (part 4) -/
import Derived.Test.YtfhbmblbidcmmaaGreatSk1
import Derived.Test.YtfhbmblbidcmmaaGreatSk3
import Derived.Test.YtfhbmblbidcmmaaGreatProg
import Derived.WalkLawsBesides
import Derived.BigQuiet
set_option linter.all false
set_option maxHeartbeats 400000
namespace Go.Proofs.YtfhbmblbidcmmaaGreat
open Go.RowKit Go.Sl Go.Dk
abbrev TD:TypeId:=151
abbrev TF:TypeId:=154
abbrev TP:TypeId:=215
abbrev TB:TypeId:=5
abbrev fT:TypeId:=148
abbrev Fj:ByteArray→Value:=fun s=>Value.string s
structure Nf where
 b:Nat
 nm:ByteArray
 f:Fl
 nv:Value
 sv:Value
structure Np where
 v:Value
 p:Pc
def Dd(n:Nf):Ac:=Ef n.b TF 3*(Sl.cell n.b 0 n.nv*(Sl.cell n.b 1 n.sv*(Sl.cell n.b 2 (.bool n.f.sure)*(rw TB 1 n.nv (A1 n.f.now)*rw TB 1 n.sv (A1 n.f.safe)))))
def BO:List Nf→Ac
 | []=>1
 |n::l=>Dd n*BO l
def notNil(v:Value):Prop:= ∃g n c,v= .slice (some ⟨g,0,none⟩) n c
def Kw(n:Np):Ac:=match n.p.b with
 |none=>i6 (n.v= .slice none 0 0)
 |some l=>i6 (notNil n.v)*rw TB 1 n.v (A1 l)
def BA:List Np→Ac
 | []=>1
 |n::l=>Kw n*BA l
def R4(n:Np):List Value:= [.string n.p.nm,.int .i64 n.p.pos,n.v]
def Ce(ps:List Np):List Value:=ps.flatMap R4
def IG(n:Nf):ByteArray×Value:=(n.nm,.pointer (some ⟨n.b,0,none⟩))
def C2(ns:List Nf):List (ByteArray×Fl):=ns.map fun n=>(n.nm,n.f)
def DC(ps:List Np):List Pc:=ps.map (·.p)
def B4(D M:Nat)(pv:Value)(d:Dk):Ac:=
 Ef D TD 7*(Sl.cell D 0 (.int .i64 d.room)*(Sl.cell D 1 (.int .i64 d.changes)*(Sl.cell D 2 (.int .i64 d.left)*(Sl.cell D 3 (.bool d.GQ)*(Sl.cell D 4 (.bool d.down)*(Sl.cell D 5 (.map (some M))*Sl.cell D 6 pv))))))
def DK(pv:Value)(ps:List Np):Ac:=rw TP 3 pv (Ce ps)*BA ps
def Cd(D M:Nat)(ns:List Nf)(pv:Value)(ps:List Np)(d:Dk):Ac:=
 B4 D M pv d*(mp Fj M (ns.map IG)*(BO ns*DK pv ps))
def B6(D:Nat)(d:Dk):Ac:=ex fun x:Nat×List Nf×Value×List Np=>i6 (C2 x.2.1=d.files∧DC x.2.2.2=d.BM)*Cd D x.1 x.2.1 x.2.2.1 x.2.2.2 d
theorem Sat.E6{D:Nat}{d:Dk}{F:Ac}{w:World}(hs:Sat (B6 D d*F) w): ∃M ns pv ps,C2 ns=d.files∧DC ps=d.BM∧Sat (Cd D M ns pv ps d*F) w:=by
 obtain ⟨⟨M,ns,pv,ps⟩,h⟩:=hs.MW
 rw[Az] at h
 obtain ⟨⟨h1,a⟩,b⟩:=h.Ho
 exact ⟨M,ns,pv,ps,h1,a,b⟩
theorem Sat.E7{D M:Nat}{ns:List Nf}{pv:Value}{ps:List Np}{d:Dk}{F:Ac}{w:World}(h1:C2 ns=d.files)(a:DC ps=d.BM)(hs:Sat (Cd D M ns pv ps d*F) w):Sat (B6 D d*F) w:=by
 refine Sat.MX (M,ns,pv,ps) ?_
 rw[Az]
 exact Sat.Lv ⟨h1,a⟩ hs
theorem Ek(l1 l2:List Nf):BO (l1++l2)=BO l1*BO l2:=by
 induction l1 with
 |nil=>simp[BO,Aw]
 |cons n l a=>simp[BO,a,Az]
theorem Jm(l1 l2:List Np):BA (l1++l2)=BA l1*BA l2:=by
 induction l1 with
 |nil=>simp[BA,Aw]
 |cons n l a=>simp[BA,a,Az]
theorem Is(l1 l2:List Np):Ce (l1++l2)=Ce l1++Ce l2:=by simp[Ce]
theorem Mc(ps:List Np):(Ce ps).length=ps.length*3:=by
 induction ps with
 |nil=>rfl
 |cons n l a=>simp[Ce,R4] at a⊢;omega
theorem ZI{ps:List Np}{i:Nat}{x:Np}(h:ps[i]?=some x):(Ce ps)[i*3]?=some (.string x.p.nm)∧(Ce ps)[i*3+1]?=some (.int .i64 x.p.pos)∧(Ce ps)[i*3+2]?=some x.v:=by
 induction ps generalizing i with
 |nil=>simp at h
 | cons n l b =>
  have e:Ce (n::l)=R4 n++Ce l:=by simp[Ce]
  rw[e]
  cases i with
  |zero=>simp at h;subst h;simp[R4]
  | succ i =>
   simp at h
   have:=b h
   have a:(i+1)*3=(R4 n).length+i*3:=by simp[R4];omega
   rw[a]
   simp only[Nat.add_assoc,List.getElem?_append_right (Nat.le_add_right _ _),Nat.add_sub_cancel_left]
   exact this
theorem GU{ns:List Nf}{k:ByteArray}(h: ∀n∈ns,n.nm≠k):EC k (C2 ns)=none:=by
 induction ns with
 |nil=>rfl
 | cons n l a =>
  show (if k=n.nm then _ else _)=_
  rw[if_neg (fun e=>h n (by simp) e.symm)]
  exact a fun m hm=>h m (by simp[hm])
theorem Fb{l1:List Nf}{n:Nf}{l2:List Nf}(h: ∀m∈l1,m.nm≠n.nm):EC n.nm (C2 (l1++n::l2))=some n.f:=by
 induction l1 with
 |nil=>simp[C2,EC]
 | cons m l a =>
  show (if n.nm=m.nm then _ else _)=_
  rw[if_neg (fun e=>h m (by simp) e.symm)]
  exact a fun m hm=>h m (by simp[hm])
theorem Xt{ns:List Nf}{k:ByteArray}(f:Fl)(h: ∀n∈ns,n.nm≠k):DW k f (C2 ns)=C2 ns++ [(k,f)]:=by
 induction ns with
 |nil=>rfl
 | cons n l a =>
  show (if k=n.nm then _ else _)=_
  rw[if_neg (fun e=>h n (by simp) e.symm)]
  show _::DW k f (C2 l)=_
  rw[a fun m hm=>h m (by simp[hm])];rfl
theorem NM{l1:List Nf}{n:Nf}{l2:List Nf}(f:Fl)(h: ∀m∈l1,m.nm≠n.nm):DW n.nm f (C2 (l1++n::l2))=C2 (l1++ { n with f:=f } ::l2):=by
 induction l1 with
 |nil=>simp[C2,DW]
 | cons m l a =>
  show (if n.nm=m.nm then _ else _)=_
  rw[if_neg (fun e=>h m (by simp) e.symm)]
  show _::DW n.nm f (C2 (l++n::l2))=_
  rw[a fun m hm=>h m (by simp[hm])];rfl
theorem Ou{ns:List Nf}{k:ByteArray}(h: ∀n∈ns,n.nm≠k):CK k (ns.map IG)=none:=by
 induction ns with
 |nil=>rfl
 | cons n l a =>
  show (if k=n.nm then _ else _)=_
  rw[if_neg (fun e=>h n (by simp) e.symm)]
  exact a fun m hm=>h m (by simp[hm])
theorem Ti{l1:List Nf}{n:Nf}{l2:List Nf}(h: ∀m∈l1,m.nm≠n.nm):CK n.nm ((l1++n::l2).map IG)=some (.pointer (some ⟨n.b,0,none⟩)):=by
 induction l1 with
 |nil=>simp[IG,CK]
 | cons m l a =>
  show (if n.nm=m.nm then _ else _)=_
  rw[if_neg (fun e=>h m (by simp) e.symm)]
  exact a fun m hm=>h m (by simp[hm])
theorem Hi(ns:List Nf)(k:ByteArray):(∃l1 n l2,ns=l1++n::l2∧n.nm=k∧ ∀m∈l1,m.nm≠k)∨ ∀n∈ns,n.nm≠k:=by
 induction ns with
 |nil=>exact .inr (by simp)
 | cons m l c =>
  by_cases a:m.nm=k
  ·exact .inl ⟨[],m,l,rfl,a,by simp⟩
  rcases c with ⟨l1,n,l2,rfl,h1,b⟩|h
  ·exact .inl ⟨m::l1,n,l2,rfl,h1,fun x hx=>by rcases List.mem_cons.1 hx with rfl|hx;exact a;exact b x hx⟩
  exact .inr fun x hx=>by rcases List.mem_cons.1 hx with rfl|hx;exact a;exact h x hx
def Ke(D M:Nat)(l1:List Nf)(n:Nf)(l2:List Nf)(pv:Value)(ps:List Np)(d:Dk):Ac:=
 B4 D M pv d*(mp Fj M ((l1++n::l2).map IG)*(BO l1*(BO l2*DK pv ps)))
theorem CT(D M:Nat)(l1:List Nf)(n:Nf)(l2:List Nf)(pv:Value)(ps:List Np)(d:Dk):Cd D M (l1++n::l2) pv ps d=Dd n*Ke D M l1 n l2 pv ps d:=by
 unfold Cd Ke
 rw[Ek,BO]
 ac_rfl
theorem ZT{D M:Nat}{l1:List Nf}{n n':Nf}{l2:List Nf}{pv:Value}{ps:List Np}{d:Dk}(hb:n'.b=n.b)(a:n'.nm=n.nm):Ke D M l1 n l2 pv ps d=Ke D M l1 n' l2 pv ps d:=by
 have:(l1++n::l2).map IG=(l1++n'::l2).map IG:=by simp[IG,hb,a]
 unfold Ke;rw[this]
theorem UY:Mt Tryz.prog 9 Fj:=RT Tryz.underlying9
theorem cQ(w:World):(zeroValue 147).run Tryz.prog w= .ok (.pointer none) w:=by kernel_rfl
theorem D2: ∃i,CJ Tryz.prog 26 TB 1 1 i (.int .u8 0):=IQ Tryz.underlying26 (by kernel_rfl) rfl (by omega)
theorem YX: ∃i,CJ Tryz.prog 149 TP 3 48 i (.agg #[.string ByteArray.empty,.int .i64 0,.slice none 0 0]):=IQ Tryz.underlying149 (by kernel_rfl) rfl (by omega)
theorem SS{M:Nat}{l1:List Nf}{n:Nf}{l2:List Nf}{F:Ac}{w:World}(hs:Sat (mp Fj M ((l1++n::l2).map IG)*F) w)(h: ∀m∈l1,m.nm≠n.nm):
 (Instr.lookup fT (.map (some M)) (.string n.nm) false).run Tryz.prog w= .ok (.pointer (some ⟨n.b,0,none⟩)) w:=by
 obtain ⟨o,a,hs⟩:=hs.Dg
 have:=D7 UY Tryz.underlying148 cQ hs.obj a n.nm false
 rw[Ti h] at this
 simpa using this
theorem Oh{M:Nat}{ns:List Nf}{k:ByteArray}{F:Ac}{w:World}(hs:Sat (mp Fj M (ns.map IG)*F) w)(a: ∀n∈ns,n.nm≠k):
 (Instr.lookup fT (.map (some M)) (.string k) false).run Tryz.prog w= .ok (.pointer none) w:=by
 obtain ⟨o,b,hs⟩:=hs.Dg
 have:=D7 UY Tryz.underlying148 cQ hs.obj b k false
 rw[Ou a] at this
 simpa using this
theorem JZ(s:ByteArray)(k:Nat)(h:k<s.size)(p:UInt8→Bool):(s.data.toList.take (k+1)).all p=((s.data.toList.take k).all p&&p s[k]):=by
 rw[List.take_succ_eq_append_getElem (by simpa using h),List.all_append]
 simp;rfl
def GG(c:UInt8):Bool:=decide (97≤c.toNat)&&decide (c.toNat≤122)
theorem MD{s:ByteArray}(h:s.size<1∨16<s.size):named s=false:=by
 unfold named
 rcases h with h|h
 ·simp[show¬1≤s.size by omega]
 simp[show¬s.size≤16 by omega]
theorem XM{s:ByteArray}(h1:1≤s.size)(a:s.size≤16):named s=s.data.toList.all GG:=by
 unfold named GG
 simp[h1,a]
theorem JI{s:ByteArray}{k:Nat}(a:k<s.size)(h:GG s[k]=false):s.data.toList.all GG=false:=by
 rw[List.all_eq_false]
 exact ⟨s[k],by simp[ByteArray.getElem_eq_getElem_data],by simp[h]⟩
theorem LW(s:ByteArray)(w:World)(hs:s.size≤9223372036854775807):
 Calls Tryz.prog 68 #[.string s] w fun e j=>e= .returned (.bool (named s))∧w=j:=by
 by_cases b:s.size<1∨16<s.size
 · rw[MD b]
   rcases b with h|h
   · have h1:s.size<1:=h
     go_enter Tryz.func68,Tryz.ntmps68
     go_wp2
     go_ret
     exact ⟨rfl,rfl⟩
   have h1: ¬s.size<1:=by omega
   go_enter Tryz.func68,Tryz.ntmps68
   go_wp2
   go_ret
   exact ⟨rfl,rfl⟩
 have h1: ¬s.size<1:=by omega
 have l: ¬16<s.size:=by omega
 have f:Aside (named s=s.data.toList.all GG):=XM (by omega) (by omega)
 clear b
 obtain ⟨r,d⟩: ∃r,Aside (named s=r):=⟨_,rfl⟩
 rw[d.out]
 go_enter Tryz.func68,Tryz.ntmps68
 go_wp2
 go_loop [14] (fun i=> ∃k:Nat,k≤s.size∧i= .int .i64 k∧Aside ((s.data.toList.take k).all GG=true)) (fun i=>s.size-(intOf i).toNat)
 case atStart=>exact ⟨0,Nat.zero_le _,rfl,by simp[Aside]⟩
 obtain ⟨k,m,rfl,A⟩:=hrel
 by_cases a:k<s.size
 · have hb:=s[k].toNat_lt
   by_cases c1:s[k].toNat<97
   · have c:Aside (r=false):=by
      have:=JI a (show GG s[k]=false by unfold GG;simp;omega)
      rw[←d.out,f.out];exact this
     go_wp2
     go_ret
     exact ⟨by rw[c.out];rfl,rfl⟩
   by_cases c2:122<s[k].toNat
   · have c:Aside (r=false):=by
      have:=JI a (show GG s[k]=false by unfold GG;simp;omega)
      rw[←d.out,f.out];exact this
     go_wp2
     go_ret
     exact ⟨by rw[c.out];rfl,rfl⟩
   have g:Aside ((s.data.toList.take (k+1)).all GG=true):=by
    show _=true
    rw[JZ s k a,A.out]
    unfold GG;simp;omega
   go_wp2
   go_round
   case rel=>exact ⟨k+1,by omega,by go_num,g⟩
   case measure=>simp[intOf];omega
 have c:Aside (r=true):=by
  have:=A.out
  rw[List.take_of_length_le (by simp;omega)] at this
  rw[←d.out,f.out];exact this
 go_wp2
 go_ret
 exact ⟨by rw[c.out];rfl,rfl⟩
theorem Z0{d:Dk}{nm:ByteArray}{t:Bool}(h:named nm=false):d.may nm t=1:=by unfold Dk.may;rw[if_pos h]
theorem Zz{d:Dk}{nm:ByteArray}{t:Bool}(h:named nm=true)(a:d.down=true):d.may nm t=8:=by unfold Dk.may;rw[if_neg (by simp[h]),if_pos a]
theorem Im{d:Dk}{nm:ByteArray}(h:named nm=true)(a:d.down=false)(b:d.get nm=none):d.may nm true=6:=by unfold Dk.may;simp[h,a,b]
theorem Rn{d:Dk}{nm:ByteArray}(h:named nm=true)(a:d.down=false):d.may nm false=0:=by unfold Dk.may;simp[h,a]
theorem Fh{d:Dk}{nm:ByteArray}{t:Bool}{f:Fl}(h:named nm=true)(a:d.down=false)(b:d.get nm=some f):d.may nm t=0:=by unfold Dk.may;simp[h,a,b]
theorem Hg(d:Dk)(nm:ByteArray)(t:Bool):(d.may nm t=1∧named nm=false)∨(d.may nm t=8∧named nm=true∧d.down=true)∨(d.may nm t=6∧named nm=true∧d.down=false∧t=true∧d.get nm=none)∨
 (d.may nm t=0∧named nm=true∧d.down=false∧(t=true→(d.get nm).isSome=true)):=by
 cases a:named nm with
 |false=>exact .inl ⟨Z0 a,rfl⟩
 | true =>
  cases b:d.down with
  |true=>exact .inr (.inl ⟨Zz a b,rfl,rfl⟩)
  | false =>
   cases c:d.get nm with
   | none =>
    cases t with
    |true=>exact .inr (.inr (.inl ⟨Im a b c,rfl,rfl,rfl,rfl⟩))
    |false=>exact .inr (.inr (.inr ⟨Rn a b,rfl,rfl,by simp⟩))
   |some f=>exact .inr (.inr (.inr ⟨Fh a b c,rfl,rfl,by simp⟩))
theorem Nc(D M:Nat)(ns:List Nf)(pv:Value)(ps:List Np)(d:Dk)(nm:ByteArray)(t:Bool)(F:Ac)(w:World)(hs:Sat (Cd D M ns pv ps d*F) w)(a:C2 ns=d.files)(l:nm.size≤9223372036854775807)(hm:d.may nm t≠0):
 Calls Tryz.prog 117 #[.pointer (some ⟨D,0,none⟩),.string nm,.bool t] w fun e k=>e= .returned (.tuple #[.pointer none,.int .i64 (d.may nm t)])∧w=k:=by
 have f:=LW nm w l
 unfold Cd B4 at hs
 have c4:=hs.c D 4
 have c5:=hs.c D 5
 rcases Hg d nm t with ⟨h1,b⟩|⟨h1,b,g⟩|⟨h1,b,g,rfl,j⟩|⟨h1,_⟩
 ·rw[h1]
  rw[b] at f
  clear hs h1 b hm a
  go_enter Tryz.func117,Tryz.ntmps117
  go_wp2_with (refine f.mono ?_;rintro e k ⟨rfl,rfl⟩)
  go_ret2
  exact ⟨rfl,rfl⟩
 ·rw[h1]
  rw[b] at f
  rw[g] at c4
  clear hs h1 b hm a g
  go_enter Tryz.func117,Tryz.ntmps117
  go_wp2_with (refine f.mono ?_;rintro e k ⟨rfl,rfl⟩)
  go_ret2
  exact ⟨rfl,rfl⟩
 ·rw [h1]
  rw[b] at f
  rw[g] at c4
  have i: ∀n∈ns,n.nm≠nm:=by
   rcases Hi ns nm with ⟨l1,n,l2,rfl,rfl,m⟩|h
   ·unfold Dk.get at j
    rw[←a,Fb m] at j
    cases j
   exact h
  have hl:=Oh (hs.take (mp Fj M (ns.map IG))) i
  clear hs h1 b hm a g j i
  go_enter Tryz.func117,Tryz.ntmps117
  go_wp2_with (refine f.mono ?_;rintro e k ⟨rfl,rfl⟩)
  go_ret2
  exact ⟨rfl,rfl⟩
 exact absurd h1 hm
theorem Fg(D M:Nat)(l1:List Nf)(n:Nf)(l2:List Nf)(pv:Value)(ps:List Np)(d:Dk)(t:Bool)(F:Ac)(w:World)(hs:Sat (Cd D M (l1++n::l2) pv ps d*F) w)(f: ∀m∈l1,m.nm≠n.nm)(g:n.nm.size≤9223372036854775807)(j:named n.nm=true)(i:d.down=false):
 Calls Tryz.prog 117 #[.pointer (some ⟨D,0,none⟩),.string n.nm,.bool t] w fun e k=>e= .returned (.tuple #[.pointer (some ⟨n.b,0,none⟩),.int .i64 0])∧w=k:=by
 have a:=LW n.nm w g
 unfold Cd B4 at hs
 have c4:=hs.c D 4
 have c5:=hs.c D 5
 rw[j] at a
 rw[i] at c4
 have hl:=SS (hs.take (mp Fj M ((l1++n::l2).map IG))) f
 clear hs j i
 cases t
 all_goals
  go_enter Tryz.func117,Tryz.ntmps117
  go_wp2_with (refine a.mono ?_;rintro e k ⟨rfl,rfl⟩)
  go_ret2
  exact ⟨rfl,rfl⟩
theorem Lh(D M:Nat)(ns:List Nf)(pv:Value)(ps:List Np)(d:Dk)(nm:ByteArray)(F:Ac)(w:World)(hs:Sat (Cd D M ns pv ps d*F) w)(b: ∀n∈ns,n.nm≠nm)(f:nm.size≤9223372036854775807)(i:named nm=true)(g:d.down=false):
 Calls Tryz.prog 117 #[.pointer (some ⟨D,0,none⟩),.string nm,.bool false] w fun e j=>e= .returned (.tuple #[.pointer none,.int .i64 0])∧w=j:=by
 have a:=LW nm w f
 unfold Cd B4 at hs
 have c4:=hs.c D 4
 have c5:=hs.c D 5
 rw[i] at a
 rw[g] at c4
 have hl:=Oh (hs.take (mp Fj M (ns.map IG))) b
 clear hs i g
 go_enter Tryz.func117,Tryz.ntmps117
 go_wp2_with (refine a.mono ?_;rintro e j ⟨rfl,rfl⟩)
 go_ret2
 exact ⟨rfl,rfl⟩
theorem IK(D M:Nat)(pv:Value)(d:Dk)(F:Ac)(w:World)(hs:Sat (B4 D M pv d*F) w)(h:d.stop=true):
 Calls Tryz.prog 149 #[.pointer (some ⟨D,0,none⟩)] w fun e b=>e= .returned (.int .i64 8)∧Sat (B4 D M pv { d with down:=true } *F) b:=by
 unfold B4 at hs
 have c2:=hs.c D 2
 have c3:=hs.c D 3
 have c4:=hs.c D 4
 have g:=hs.f D 4
 have a:=hs.JQ D 4 (.bool true)
 unfold Dk.stop at h
 simp only[Bool.and_eq_true,beq_iff_eq] at h
 rw[h.1] at c3
 rw[h.2] at c2
 clear hs h
 go_enter Tryz.func149,Tryz.ntmps149
 go_wp2
 try go_quiet (fail)
 go_wp2
 go_ret
 exact ⟨rfl,a⟩
theorem LH(D M:Nat)(pv:Value)(d:Dk)(F:Ac)(w:World)(hs:Sat (B4 D M pv d*F) w)(h:d.stop=false)(h1: -4611686018427387904≤d.left)(j:d.left≤9223372036854775807)(n:0≤d.changes)(o:d.changes≤4611686018427387904):
 Calls Tryz.prog 149 #[.pointer (some ⟨D,0,none⟩)] w fun e k=>e= .returned (.int .i64 0)∧Sat (B4 D M pv d.BW*F) k:=by
 unfold B4 at hs
 have c1:=hs.c D 1
 have l:=hs.f D 1
 have c2:=hs.c D 2
 have m:=hs.f D 2
 have c3:=hs.c D 3
 have a:=(hs.JQ D 2 (.int .i64 (d.left-1)))
 have g:=a.c D 1
 have i:=a.f D 1
 have b:=a.JQ D 1 (.int .i64 (d.changes+1))
 unfold Dk.stop at h
 clear hs a
 cases ha:d.GQ with
 | true =>
  rw[ha] at h c3
  simp only[Bool.true_and] at h
  go_enter Tryz.func149,Tryz.ntmps149
  go_wp2
  try go_quiet (fail)
  go_wp2
  go_ret
  exact ⟨rfl,by unfold B4 Dk.BW;rw[ha] at b;simpa[ha] using b⟩
 | false =>
  rw[ha] at c3
  go_enter Tryz.func149,Tryz.ntmps149
  go_wp2
  try go_quiet (fail)
  go_wp2
  go_ret
  exact ⟨rfl,by unfold B4 Dk.BW;rw[ha] at b;simpa[ha] using b⟩
