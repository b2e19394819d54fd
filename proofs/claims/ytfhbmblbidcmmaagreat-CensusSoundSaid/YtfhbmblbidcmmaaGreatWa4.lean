/- censusSound holds for every input. No condition. (part 4) -/
import Derived.Test.YtfhbmblbidcmmaaGreatWa1
import Derived.Test.YtfhbmblbidcmmaaGreatProg
import Derived.WalkLawsBesides
import Derived.BigQuiet
set_option linter.all false
set_option maxHeartbeats 400000
namespace Go.Dk
structure Fl where
 now:List UInt8
 safe:List UInt8
 sure:Bool
structure Pc where
 nm:ByteArray
 pos:Nat
 b:Option (List UInt8)
structure Dk where
 room:Int
 changes:Int
 left:Int
 FZ:Bool
 down:Bool
 files:List (ByteArray×Fl)
 BN:List Pc
def D7(nm:ByteArray):List (ByteArray×Fl)→Option Fl
 | []=>none
 |p::l=>if nm=p.1 then some p.2 else D7 nm l
def D9(nm:ByteArray)(f:Fl):List (ByteArray×Fl)→List (ByteArray×Fl)
 | []=> [(nm,f)]
 |p::l=>if nm=p.1 then (nm,f)::l else p::D9 nm f l
def named(s:ByteArray):Bool:=decide (1≤s.size)&&decide (s.size≤16)&&s.data.toList.all fun c=>decide (97≤c.toNat)&&decide (c.toNat≤122)
def sum(fs:List (ByteArray×Fl)):Nat:=(fs.map fun p=>p.2.now.length).sum
def Ff(f:Option Fl):Nat:=(f.map fun x=>x.now.length).getD 0
namespace Dk
def new(room:Int):Dk:=⟨room,0,0,false,false,[],[]⟩
def get(d:Dk)(nm:ByteArray):Option Fl:=D7 nm d.files
def may(d:Dk)(nm:ByteArray)(a:Bool):Int:=
 if named nm=false then 1 else if d.down then 8 else if a&&(d.get nm).isNone then 6 else 0
def fits(d:Dk)(f:Option Fl)(size:Int):Int:=
 if f.isNone&&decide (16≤d.files.length) then 11 else
 if decide ((Ff f:Int)<size)&&decide (d.room<(sum d.files:Int)-Ff f+size) then 7 else 0
def stop(d:Dk):Bool:=d.FZ&&d.left==0
def BV(d:Dk):Dk:= { d with left:=d.left-1,changes:=d.changes+1 }
def settled(d:Dk)(nm:ByteArray):Dk:= { d with BN:=d.BN.filter fun p=>p.nm !=nm }
def put(d:Dk)(nm:ByteArray)(f:Fl):Dk:= { d with files:=D9 nm f d.files }
end Dk
def laid(a:List UInt8)(at_:Nat)(b:List UInt8):List UInt8:=
 (a++List.replicate (at_+b.length-a.length) 0).take at_++b++a.drop (at_+b.length)
theorem De(a:List UInt8)(k:Nat)(b:List UInt8):(laid a k b).length=max a.length (k+b.length):=by grind [laid]
def part(k n:Nat):Nat:=min n (64-k%64)
theorem J5{k n:Nat}(h:0<n):0<part k n∧part k n≤n∧part k n≤64:=by unfold part;omega
def FF(nm:ByteArray)(k:Nat)(b:List UInt8):List Pc:=
 if h:b.length=0 then [] else ⟨nm,k,some (b.take (part k b.length))⟩::FF nm (k+part k b.length) (b.drop (part k b.length))
termination_by b.length
decreasing_by have:=J5 (k:=k) (n:=b.length) (by omega);simp;omega
theorem JL(nm:ByteArray)(k:Nat):FF nm k []= []:=by rw[FF];simp
theorem MQ(nm:ByteArray)(k:Nat)(b:List UInt8)(h:0<b.length):FF nm k b=⟨nm,k,some (b.take (part k b.length))⟩::FF nm (k+part k b.length) (b.drop (part k b.length)):=by grind [FF]
theorem PB(nm:ByteArray): ∀(n k:Nat)(b:List UInt8),b.length≤n→(FF nm k b).length≤b.length
 |0,k,b,h=>by simp_all[JL]
 | n + 1, k, b, h => by
  by_cases hb:0<b.length
  ·rw[MQ nm k b hb]
   have hp:=J5 (k:=k) hb
   have:=PB nm n (k+part k b.length) (b.drop (part k b.length)) (by simp;omega)
   grind
  simp_all[JL]
theorem JK(nm:ByteArray): ∀(n k:Nat)(b:List UInt8),b.length≤n→ ∀p∈FF nm k b,p.nm=nm∧ ∃l,p.b=some l∧p.pos+l.length≤k+b.length∧k≤p.pos
 |0,k,b,h=>by simp_all[JL]
 | n + 1, k, b, h => by
  by_cases hb:0<b.length
  ·rw[MQ nm k b hb]
   have hp:=J5 (k:=k) hb
   have:=JK nm n (k+part k b.length) (b.drop (part k b.length)) (by simp;omega)
   grind
  simp_all[JL]
namespace Dk
def Jv:Fl:=⟨[],[],false⟩
def load(d:Dk)(nm:ByteArray)(b:List UInt8):Int×Dk:=
 if named nm=false then (1,d) else
 if d.fits (d.get nm) b.length≠0 then (d.fits (d.get nm) b.length,d) else
 (0,(d.settled nm).put nm ⟨b,b,true⟩)
def written(d:Dk)(nm:ByteArray)(k:Nat)(b:List UInt8):Dk:=
 let f:=(d.get nm).getD Jv
 { d.BV.put nm { f with now:=laid f.now k b } with BN:=d.BN++FF nm k b }
def write(d:Dk)(nm:ByteArray)(k:Int)(b:List UInt8):Int×Dk:=
 if d.may nm false≠0 then (d.may nm false,d) else
 if k<0∨(Ff (d.get nm):Int)<k then (2,d) else
 if b.length=0 then (0,d) else
 if d.fits (d.get nm) (max (Ff (d.get nm)) (k+b.length))≠0 then (d.fits (d.get nm) (max (Ff (d.get nm)) (k+b.length)),d) else
 if d.stop then (8, { d with down:=true }) else
 (0,d.written nm k.toNat b)
def cut(d:Dk)(nm:ByteArray)(n:Int):Int×Dk:=
 if d.may nm true≠0 then (d.may nm true,d) else
 if n<0∨(Ff (d.get nm):Int)<n then (2,d) else
 if d.stop then (8, { d with down:=true }) else
 let f:=(d.get nm).getD Jv
 (0, { d.BV.put nm { f with now:=f.now.take n.toNat } with BN:=d.BN++ [⟨nm,n.toNat,none⟩] })
def sync(d:Dk)(nm:ByteArray):Int×Dk:=
 if d.may nm true≠0 then (d.may nm true,d) else
 if d.stop then (8, { d with down:=true }) else
 let f:=(d.get nm).getD Jv
 (0,(d.BV.put nm { f with safe:=f.now,sure:=true }).settled nm)
def read(d:Dk)(nm:ByteArray)(k n:Int):Int×List UInt8:=
 if d.may nm true≠0 then (d.may nm true,[]) else
 let f:=(d.get nm).getD Jv
 if k<0∨n<0∨(f.now.length:Int)<k∨(f.now.length:Int)-k<n then (2,[]) else
 (0,(f.now.drop k.toNat).take n.toNat)
def size(d:Dk)(nm:ByteArray):Int:=if d.may nm true≠0 then-1 else ((d.get nm).getD Jv).now.length
end Dk
def mL(a:List Int)(i:Nat):Bool:=match a[i%a.length]? with
 |none=>false
 |some z=>z%2==1
def ofName(nm:ByteArray)(ps:List Pc):List Pc:=ps.filter fun p=>p.nm==nm
def Mo:Nat:=1099511627776
structure Ok (m:Nat) (d:Dk):Prop where
 nd:(d.files.map (·.1)).Nodup
 room:0≤d.room∧d.room≤Mo
 left: -(m:Int)≤d.left∧d.left≤9223372036854775807
 changes:0≤d.changes∧d.changes≤m
 BN:d.BN.length≤m
 nf:d.files.length≤16
 sz: ∀p∈d.files,p.2.now.length≤Mo∧p.2.safe.length≤Mo
 pc: ∀p∈d.BN,p.pos+(p.b.getD []).length≤Mo
 pn: ∀p∈d.BN,(d.get p.nm).isSome=true
end Go.Dk
namespace Go.Proofs.YtfhbmblbidcmmaaGreat
open Go.RowKit Go.Sl Go.Dk
abbrev TD:TypeId:=151
abbrev TF:TypeId:=154
abbrev TP:TypeId:=215
abbrev TB:TypeId:=5
abbrev jZ:TypeId:=148
abbrev DO:ByteArray→Value:=fun s=>Value.string s
structure Nf where
 b:Nat
 nm:ByteArray
 f:Fl
 nv:Value
 sv:Value
structure Np where
 v:Value
 p:Pc
def CE(n:Nf):Ab:=Ev n.b TF 3*(Sl.cell n.b 0 n.nv*(Sl.cell n.b 1 n.sv*(Sl.cell n.b 2 (.bool n.f.sure)*(rw TB 1 n.nv (A4 n.f.now)*rw TB 1 n.sv (A4 n.f.safe)))))
def Bs:List Nf→Ab
 | []=>1
 |n::l=>CE n*Bs l
def notNil(v:Value):Prop:= ∃g n c,v= .slice (some ⟨g,0,none⟩) n c
def KQ(n:Np):Ab:=match n.p.b with
 |none=>cZ (n.v= .slice none 0 0)
 |some l=>cZ (notNil n.v)*rw TB 1 n.v (A4 l)
def B8:List Np→Ab
 | []=>1
 |n::l=>KQ n*B8 l
def Sy(n:Np):List Value:= [.string n.p.nm,.int .i64 n.p.pos,n.v]
def Cg(ps:List Np):List Value:=ps.flatMap Sy
def Gg(n:Nf):ByteArray×Value:=(n.nm,.pointer (some ⟨n.b,0,none⟩))
def Ct(ns:List Nf):List (ByteArray×Fl):=ns.map fun n=>(n.nm,n.f)
def DE(ps:List Np):List Pc:=ps.map (·.p)
def AY(D M:Nat)(pv:Value)(d:Dk):Ab:=
 Ev D TD 7*(Sl.cell D 0 (.int .i64 d.room)*(Sl.cell D 1 (.int .i64 d.changes)*(Sl.cell D 2 (.int .i64 d.left)*(Sl.cell D 3 (.bool d.FZ)*(Sl.cell D 4 (.bool d.down)*(Sl.cell D 5 (.map (some M))*Sl.cell D 6 pv))))))
def Dt(pv:Value)(ps:List Np):Ab:=rw TP 3 pv (Cg ps)*B8 ps
def BC(D M:Nat)(ns:List Nf)(pv:Value)(ps:List Np)(d:Dk):Ab:=
 AY D M pv d*(mp DO M (ns.map Gg)*(Bs ns*Dt pv ps))
def Bv(D:Nat)(d:Dk):Ab:=ex fun x:Nat×List Nf×Value×List Np=>cZ (Ct x.2.1=d.files∧DE x.2.2.2=d.BN)*BC D x.1 x.2.1 x.2.2.1 x.2.2.2 d
theorem Sat.DG{D:Nat}{d:Dk}{F:Ab}{w:World}(hs:Sat (Bv D d*F) w): ∃M ns pv ps,Ct ns=d.files∧DE ps=d.BN∧Sat (BC D M ns pv ps d*F) w:=by
 obtain ⟨⟨M,ns,pv,ps⟩,h⟩:=hs.Oa
 rw[Az] at h
 obtain ⟨⟨h1,a⟩,b⟩:=h.Ib
 exact ⟨M,ns,pv,ps,h1,a,b⟩
theorem Sat.CY{D M:Nat}{ns:List Nf}{pv:Value}{ps:List Np}{d:Dk}{F:Ab}{w:World}(h1:Ct ns=d.files)(a:DE ps=d.BN)(hs:Sat (BC D M ns pv ps d*F) w):Sat (Bv D d*F) w:=by
 refine Sat.Ob (M,ns,pv,ps) ?_
 rw[Az]
 exact Sat.LU ⟨h1,a⟩ hs
theorem CF(l1 l2:List Nf):Bs (l1++l2)=Bs l1*Bs l2:=by
 induction l1 with
 |nil=>simp[Bs,Ay]
 |cons n l a=>simp[Bs,a,Az]
theorem J8(l1 l2:List Np):B8 (l1++l2)=B8 l1*B8 l2:=by
 induction l1 with
 |nil=>simp[B8,Ay]
 |cons n l a=>simp[B8,a,Az]
theorem IG(l1 l2:List Np):Cg (l1++l2)=Cg l1++Cg l2:=by simp[Cg]
theorem MG(ps:List Np):(Cg ps).length=ps.length*3:=by
 induction ps with
 |nil=>rfl
 |cons n l a=>simp[Cg,Sy] at a⊢;omega
theorem aY{ps:List Np}{i:Nat}{x:Np}(h:ps[i]?=some x):(Cg ps)[i*3]?=some (.string x.p.nm)∧(Cg ps)[i*3+1]?=some (.int .i64 x.p.pos)∧(Cg ps)[i*3+2]?=some x.v:=by
 induction ps generalizing i with
 |nil=>simp at h
 | cons n l b =>
  have e:Cg (n::l)=Sy n++Cg l:=by simp[Cg]
  rw[e]
  cases i with
  |zero=>simp at h;subst h;simp[Sy]
  | succ i =>
   simp at h
   have:=b h
   have a:(i+1)*3=(Sy n).length+i*3:=by simp[Sy];omega
   rw[a]
   simp only[Nat.add_assoc,List.getElem?_append_right (Nat.le_add_right _ _),Nat.add_sub_cancel_left]
   exact this
theorem FQ{ns:List Nf}{k:ByteArray}(h: ∀n∈ns,n.nm≠k):D7 k (Ct ns)=none:=by
 induction ns with
 |nil=>rfl
 | cons n l a =>
  show (if k=n.nm then _ else _)=_
  rw[if_neg (fun e=>h n (by simp) e.symm)]
  exact a fun m hm=>h m (by simp[hm])
theorem ED{l1:List Nf}{n:Nf}{l2:List Nf}(h: ∀m∈l1,m.nm≠n.nm):D7 n.nm (Ct (l1++n::l2))=some n.f:=by
 induction l1 with
 |nil=>simp[Ct,D7]
 | cons m l a =>
  show (if n.nm=m.nm then _ else _)=_
  rw[if_neg (fun e=>h m (by simp) e.symm)]
  exact a fun m hm=>h m (by simp[hm])
theorem Q9{ns:List Nf}{k:ByteArray}(f:Fl)(h: ∀n∈ns,n.nm≠k):D9 k f (Ct ns)=Ct ns++ [(k,f)]:=by
 induction ns with
 |nil=>rfl
 | cons n l a =>
  show (if k=n.nm then _ else _)=_
  rw[if_neg (fun e=>h n (by simp) e.symm)]
  show _::D9 k f (Ct l)=_
  rw[a fun m hm=>h m (by simp[hm])];rfl
theorem KE{l1:List Nf}{n:Nf}{l2:List Nf}(f:Fl)(h: ∀m∈l1,m.nm≠n.nm):D9 n.nm f (Ct (l1++n::l2))=Ct (l1++ { n with f:=f } ::l2):=by
 induction l1 with
 |nil=>simp[Ct,D9]
 | cons m l a =>
  show (if n.nm=m.nm then _ else _)=_
  rw[if_neg (fun e=>h m (by simp) e.symm)]
  show _::D9 n.nm f (Ct (l++n::l2))=_
  rw[a fun m hm=>h m (by simp[hm])];rfl
theorem Ph{ns:List Nf}{k:ByteArray}(h: ∀n∈ns,n.nm≠k):Cq k (ns.map Gg)=none:=by
 induction ns with
 |nil=>rfl
 | cons n l a =>
  show (if k=n.nm then _ else _)=_
  rw[if_neg (fun e=>h n (by simp) e.symm)]
  exact a fun m hm=>h m (by simp[hm])
theorem Un{l1:List Nf}{n:Nf}{l2:List Nf}(h: ∀m∈l1,m.nm≠n.nm):Cq n.nm ((l1++n::l2).map Gg)=some (.pointer (some ⟨n.b,0,none⟩)):=by
 induction l1 with
 |nil=>simp[Gg,Cq]
 | cons m l a =>
  show (if n.nm=m.nm then _ else _)=_
  rw[if_neg (fun e=>h m (by simp) e.symm)]
  exact a fun m hm=>h m (by simp[hm])
theorem Gj(ns:List Nf)(k:ByteArray):(∃l1 n l2,ns=l1++n::l2∧n.nm=k∧ ∀m∈l1,m.nm≠k)∨ ∀n∈ns,n.nm≠k:=by
 induction ns with
 |nil=>exact .inr (by simp)
 | cons m l c =>
  by_cases a:m.nm=k
  ·exact .inl ⟨[],m,l,rfl,a,by simp⟩
  rcases c with ⟨l1,n,l2,rfl,h1,b⟩|h
  ·exact .inl ⟨m::l1,n,l2,rfl,h1,fun x hx=>by rcases List.mem_cons.1 hx with rfl|hx;exact a;exact b x hx⟩
  exact .inr fun x hx=>by rcases List.mem_cons.1 hx with rfl|hx;exact a;exact h x hx
def K0(D M:Nat)(l1:List Nf)(n:Nf)(l2:List Nf)(pv:Value)(ps:List Np)(d:Dk):Ab:=
 AY D M pv d*(mp DO M ((l1++n::l2).map Gg)*(Bs l1*(Bs l2*Dt pv ps)))
theorem CX(D M:Nat)(l1:List Nf)(n:Nf)(l2:List Nf)(pv:Value)(ps:List Np)(d:Dk):BC D M (l1++n::l2) pv ps d=CE n*K0 D M l1 n l2 pv ps d:=by
 unfold BC K0
 rw[CF,Bs]
 ac_rfl
theorem bN{D M:Nat}{l1:List Nf}{n n':Nf}{l2:List Nf}{pv:Value}{ps:List Np}{d:Dk}(hb:n'.b=n.b)(a:n'.nm=n.nm):K0 D M l1 n l2 pv ps d=K0 D M l1 n' l2 pv ps d:=by
 have:(l1++n::l2).map Gg=(l1++n'::l2).map Gg:=by simp[Gg,hb,a]
 unfold K0;rw[this]
theorem RW:MV Tryz.prog 9 DO:=SO Tryz.underlying9
theorem gY(w:World):(zeroValue 147).run Tryz.prog w= .ok (.pointer none) w:=by kernel_rfl
theorem Dp: ∃i,C8 Tryz.prog 26 TB 1 1 i (.int .u8 0):=Iu Tryz.underlying26 (by kernel_rfl) rfl (by omega)
theorem j0: ∃i,C8 Tryz.prog 149 TP 3 48 i (.agg #[.string ByteArray.empty,.int .i64 0,.slice none 0 0]):=Iu Tryz.underlying149 (by kernel_rfl) rfl (by omega)
theorem Ns{M:Nat}{l1:List Nf}{n:Nf}{l2:List Nf}{F:Ab}{w:World}(hs:Sat (mp DO M ((l1++n::l2).map Gg)*F) w)(h: ∀m∈l1,m.nm≠n.nm):
 (Instr.lookup jZ (.map (some M)) (.string n.nm) false).run Tryz.prog w= .ok (.pointer (some ⟨n.b,0,none⟩)) w:=by
 obtain ⟨o,a,hs⟩:=hs.Cx
 have:=DJ RW Tryz.underlying148 gY hs.obj a n.nm false
 rw[Un h] at this
 simpa using this
theorem KJ{M:Nat}{ns:List Nf}{k:ByteArray}{F:Ab}{w:World}(hs:Sat (mp DO M (ns.map Gg)*F) w)(a: ∀n∈ns,n.nm≠k):
 (Instr.lookup jZ (.map (some M)) (.string k) false).run Tryz.prog w= .ok (.pointer none) w:=by
 obtain ⟨o,b,hs⟩:=hs.Cx
 have:=DJ RW Tryz.underlying148 gY hs.obj b k false
 rw[Ph a] at this
 simpa using this
theorem Kw(s:ByteArray)(k:Nat)(h:k<s.size)(p:UInt8→Bool):(s.data.toList.take (k+1)).all p=((s.data.toList.take k).all p&&p s[k]):=by
 rw[List.take_succ_eq_append_getElem (by simpa using h),List.all_append]
 simp;rfl
def GU(c:UInt8):Bool:=decide (97≤c.toNat)&&decide (c.toNat≤122)
theorem Nu{s:ByteArray}(h:s.size<1∨16<s.size):named s=false:=by
 unfold named
 rcases h with h|h
 ·simp[show¬1≤s.size by omega]
 simp[show¬s.size≤16 by omega]
theorem Zi{s:ByteArray}(h1:1≤s.size)(a:s.size≤16):named s=s.data.toList.all GU:=by
 unfold named GU
 simp[h1,a]
theorem Ke{s:ByteArray}{k:Nat}(a:k<s.size)(h:GU s[k]=false):s.data.toList.all GU=false:=by
 rw[List.all_eq_false]
 exact ⟨s[k],by simp[ByteArray.getElem_eq_getElem_data],by simp[h]⟩
theorem FU(s:ByteArray)(w:World)(hs:s.size≤9223372036854775807):
 Calls Tryz.prog 68 #[.string s] w fun e j=>e= .returned (.bool (named s))∧w=j:=by
 by_cases b:s.size<1∨16<s.size
 · rw[Nu b]
   rcases b with h|h
   · have h1:s.size<1:=h
     go_enter Tryz.func68,Tryz.ntmps68
     go_wp2
     go_ret
     exact ⟨rfl,rfl⟩
   have h1: ¬s.size<1:=by omega
   go_enter Tryz.func68,Tryz.ntmps68
   go_wp2
   go_ret
   exact ⟨rfl,rfl⟩
 have h1: ¬s.size<1:=by omega
 have l: ¬16<s.size:=by omega
 have f:Aside (named s=s.data.toList.all GU):=Zi (by omega) (by omega)
 clear b
 obtain ⟨r,d⟩: ∃r,Aside (named s=r):=⟨_,rfl⟩
 rw[d.out]
 go_enter Tryz.func68,Tryz.ntmps68
 go_wp2
 go_loop [14] (fun i=> ∃k:Nat,k≤s.size∧i= .int .i64 k∧Aside ((s.data.toList.take k).all GU=true)) (fun i=>s.size-(intOf i).toNat)
 case atStart=>exact ⟨0,Nat.zero_le _,rfl,by simp[Aside]⟩
 obtain ⟨k,m,rfl,A⟩:=hrel
 by_cases a:k<s.size
 · have hb:=s[k].toNat_lt
   by_cases c1:s[k].toNat<97
   · have c:Aside (r=false):=by
      have:=Ke a (show GU s[k]=false by unfold GU;simp;omega)
      rw[←d.out,f.out];exact this
     go_wp2
     go_ret
     exact ⟨by rw[c.out];rfl,rfl⟩
   by_cases c2:122<s[k].toNat
   · have c:Aside (r=false):=by
      have:=Ke a (show GU s[k]=false by unfold GU;simp;omega)
      rw[←d.out,f.out];exact this
     go_wp2
     go_ret
     exact ⟨by rw[c.out];rfl,rfl⟩
   have g:Aside ((s.data.toList.take (k+1)).all GU=true):=by
    show _=true
    rw[Kw s k a,A.out]
    unfold GU;simp;omega
   go_wp2
   go_round
   case rel=>exact ⟨k+1,by omega,by go_num,g⟩
   case measure=>simp[intOf];omega
 have c:Aside (r=true):=by
  have:=A.out
  rw[List.take_of_length_le (by simp;omega)] at this
  rw[←d.out,f.out];exact this
 go_wp2
 go_ret
 exact ⟨by rw[c.out];rfl,rfl⟩
theorem y9{d:Dk}{nm:ByteArray}{t:Bool}(h:named nm=false):d.may nm t=1:=by unfold Dk.may;rw[if_pos h]
theorem x'{d:Dk}{nm:ByteArray}{t:Bool}(h:named nm=true)(a:d.down=true):d.may nm t=8:=by unfold Dk.may;rw[if_neg (by simp[h]),if_pos a]
theorem I7{d:Dk}{nm:ByteArray}(h:named nm=true)(a:d.down=false)(b:d.get nm=none):d.may nm true=6:=by unfold Dk.may;simp[h,a,b]
theorem Si{d:Dk}{nm:ByteArray}(h:named nm=true)(a:d.down=false):d.may nm false=0:=by unfold Dk.may;simp[h,a]
theorem Fp{d:Dk}{nm:ByteArray}{t:Bool}{f:Fl}(h:named nm=true)(a:d.down=false)(b:d.get nm=some f):d.may nm t=0:=by unfold Dk.may;simp[h,a,b]
theorem Hz(d:Dk)(nm:ByteArray)(t:Bool):(d.may nm t=1∧named nm=false)∨(d.may nm t=8∧named nm=true∧d.down=true)∨(d.may nm t=6∧named nm=true∧d.down=false∧t=true∧d.get nm=none)∨
 (d.may nm t=0∧named nm=true∧d.down=false∧(t=true→(d.get nm).isSome=true)):=by
 cases a:named nm with
 |false=>exact .inl ⟨y9 a,rfl⟩
 | true =>
  cases b:d.down with
  |true=>exact .inr (.inl ⟨x' a b,rfl,rfl⟩)
  | false =>
   cases c:d.get nm with
   | none =>
    cases t with
    |true=>exact .inr (.inr (.inl ⟨I7 a b c,rfl,rfl,rfl,rfl⟩))
    |false=>exact .inr (.inr (.inr ⟨Si a b,rfl,rfl,by simp⟩))
   |some f=>exact .inr (.inr (.inr ⟨Fp a b c,rfl,rfl,by simp⟩))
theorem Og(D M:Nat)(ns:List Nf)(pv:Value)(ps:List Np)(d:Dk)(nm:ByteArray)(t:Bool)(F:Ab)(w:World)(hs:Sat (BC D M ns pv ps d*F) w)(a:Ct ns=d.files)(l:nm.size≤9223372036854775807)(hm:d.may nm t≠0):
 Calls Tryz.prog 117 #[.pointer (some ⟨D,0,none⟩),.string nm,.bool t] w fun e k=>e= .returned (.tuple #[.pointer none,.int .i64 (d.may nm t)])∧w=k:=by
 have f:=FU nm w l
 unfold BC AY at hs
 have c4:=hs.c D 4
 have c5:=hs.c D 5
 rcases Hz d nm t with ⟨h1,b⟩|⟨h1,b,g⟩|⟨h1,b,g,rfl,j⟩|⟨h1,_⟩
 ·rw[h1]
  rw[b] at f
  clear hs h1 b hm a
  go_enter Tryz.func117,Tryz.ntmps117
  go_wp2_with (refine f.mono ?_;rintro e k ⟨rfl,rfl⟩)
  go_ret2
  exact ⟨rfl,rfl⟩
 ·rw[h1]
  rw[b] at f
  rw[g] at c4
  clear hs h1 b hm a g
  go_enter Tryz.func117,Tryz.ntmps117
  go_wp2_with (refine f.mono ?_;rintro e k ⟨rfl,rfl⟩)
  go_ret2
  exact ⟨rfl,rfl⟩
 ·rw [h1]
  rw[b] at f
  rw[g] at c4
  have i: ∀n∈ns,n.nm≠nm:=by
   rcases Gj ns nm with ⟨l1,n,l2,rfl,rfl,m⟩|h
   ·unfold Dk.get at j
    rw[←a,ED m] at j
    cases j
   exact h
  have hl:=KJ (hs.take (mp DO M (ns.map Gg))) i
  clear hs h1 b hm a g j i
  go_enter Tryz.func117,Tryz.ntmps117
  go_wp2_with (refine f.mono ?_;rintro e k ⟨rfl,rfl⟩)
  go_ret2
  exact ⟨rfl,rfl⟩
 exact absurd h1 hm
theorem Fo(D M:Nat)(l1:List Nf)(n:Nf)(l2:List Nf)(pv:Value)(ps:List Np)(d:Dk)(t:Bool)(F:Ab)(w:World)(hs:Sat (BC D M (l1++n::l2) pv ps d*F) w)(f: ∀m∈l1,m.nm≠n.nm)(g:n.nm.size≤9223372036854775807)(j:named n.nm=true)(i:d.down=false):
 Calls Tryz.prog 117 #[.pointer (some ⟨D,0,none⟩),.string n.nm,.bool t] w fun e k=>e= .returned (.tuple #[.pointer (some ⟨n.b,0,none⟩),.int .i64 0])∧w=k:=by
 have a:=FU n.nm w g
 unfold BC AY at hs
 have c4:=hs.c D 4
 have c5:=hs.c D 5
 rw[j] at a
 rw[i] at c4
 have hl:=Ns (hs.take (mp DO M ((l1++n::l2).map Gg))) f
 clear hs j i
 cases t
 all_goals
  go_enter Tryz.func117,Tryz.ntmps117
  go_wp2_with (refine a.mono ?_;rintro e k ⟨rfl,rfl⟩)
  go_ret2
  exact ⟨rfl,rfl⟩
theorem LC(D M:Nat)(ns:List Nf)(pv:Value)(ps:List Np)(d:Dk)(nm:ByteArray)(F:Ab)(w:World)(hs:Sat (BC D M ns pv ps d*F) w)(b: ∀n∈ns,n.nm≠nm)(f:nm.size≤9223372036854775807)(i:named nm=true)(g:d.down=false):
 Calls Tryz.prog 117 #[.pointer (some ⟨D,0,none⟩),.string nm,.bool false] w fun e j=>e= .returned (.tuple #[.pointer none,.int .i64 0])∧w=j:=by
 have a:=FU nm w f
 unfold BC AY at hs
 have c4:=hs.c D 4
 have c5:=hs.c D 5
 rw[i] at a
 rw[g] at c4
 have hl:=KJ (hs.take (mp DO M (ns.map Gg))) b
 clear hs i g
 go_enter Tryz.func117,Tryz.ntmps117
 go_wp2_with (refine a.mono ?_;rintro e j ⟨rfl,rfl⟩)
 go_ret2
 exact ⟨rfl,rfl⟩
theorem Jp(D M:Nat)(pv:Value)(d:Dk)(F:Ab)(w:World)(hs:Sat (AY D M pv d*F) w)(h:d.stop=true):
 Calls Tryz.prog 149 #[.pointer (some ⟨D,0,none⟩)] w fun e b=>e= .returned (.int .i64 8)∧Sat (AY D M pv { d with down:=true } *F) b:=by
 unfold AY at hs
 have c2:=hs.c D 2
 have c3:=hs.c D 3
 have c4:=hs.c D 4
 have g:=hs.f D 4
 have a:=hs.Kn D 4 (.bool true)
 unfold Dk.stop at h
 simp only[Bool.and_eq_true,beq_iff_eq] at h
 rw[h.1] at c3
 rw[h.2] at c2
 clear hs h
 go_enter Tryz.func149,Tryz.ntmps149
 go_wp2
 try go_quiet (fail)
 go_wp2
 go_ret
 exact ⟨rfl,a⟩
theorem Mr(D M:Nat)(pv:Value)(d:Dk)(F:Ab)(w:World)(hs:Sat (AY D M pv d*F) w)(h:d.stop=false)(h1: -4611686018427387904≤d.left)(j:d.left≤9223372036854775807)(n:0≤d.changes)(o:d.changes≤4611686018427387904):
 Calls Tryz.prog 149 #[.pointer (some ⟨D,0,none⟩)] w fun e k=>e= .returned (.int .i64 0)∧Sat (AY D M pv d.BV*F) k:=by
 unfold AY at hs
 have c1:=hs.c D 1
 have l:=hs.f D 1
 have c2:=hs.c D 2
 have m:=hs.f D 2
 have c3:=hs.c D 3
 have a:=(hs.Kn D 2 (.int .i64 (d.left-1)))
 have g:=a.c D 1
 have i:=a.f D 1
 have b:=a.Kn D 1 (.int .i64 (d.changes+1))
 unfold Dk.stop at h
 clear hs a
 cases ha:d.FZ with
 | true =>
  rw[ha] at h c3
  simp only[Bool.true_and] at h
  go_enter Tryz.func149,Tryz.ntmps149
  go_wp2
  try go_quiet (fail)
  go_wp2
  go_ret
  exact ⟨rfl,by unfold AY Dk.BV;rw[ha] at b;simpa[ha] using b⟩
 | false =>
  rw[ha] at c3
  go_enter Tryz.func149,Tryz.ntmps149
  go_wp2
  try go_quiet (fail)
  go_wp2
  go_ret
  exact ⟨rfl,by unfold AY Dk.BV;rw[ha] at b;simpa[ha] using b⟩
