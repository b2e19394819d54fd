/- treeShape holds for every input. No condition. (part 36) -/
import Derived.Test.YtfhbmblbidcmmaaGreatSk34
import Derived.Test.YtfhbmblbidcmmaaGreatSk35
set_option linter.all false
set_option maxRecDepth 100000
set_option maxHeartbeats 3200000
namespace Go.Proofs.YtfhbmblbidcmmaaGreat
open Go.RowKit Go.Sl Go.Dk Go.Tr
theorem P'{p:Int}{s s':TS}{e:Int}(h:Ai p s= .fault e s'):e≠0:=by
 have b:s.ops<B8:=by
  rcases Nat.lt_or_ge s.ops B8 with h|h1
  · exact h
  unfold Ai M.bind Rk at h
  rw[if_neg (by omega)] at h
  cases h
 rw[Ht b] at h
 split at h
 · split at h
   · cases h
   cases h;omega
 rename_i a
 cases h
 split
 · omega
 exact a
theorem Q'{p:Int}{s s':TS}{e:Int}(h:Ec Ai p s= .fault e s'):e≠0:=by
 unfold Ec at h
 split at h
 ·cases h
 cases hr:Ai p s with
 |bad=>unfold M.bind at h;rw[hr] at h;cases h
 | fault a s2 =>
  unfold M.bind at h
  rw[hr] at h
  cases h
  exact P' hr
 |ok n s2=>unfold M.bind at h;rw[hr] at h;cases h
def MA(root at_:Int):M TS (Au×Int):=M.bind (Ec Ai root) fun n=>if at_<0∨n≤at_ then M.fail 2 else IB Ai root at_
def Ui(x:Au)(a e:Int):Value:= .tuple #[.agg #[.int .i64 x.src,.int .i64 x.pos,.int .i64 x.len,.int .i64 x.lines],.int .i64 a,.int .i64 e]
theorem VG(X N E:Nat)(w:World):
 CallsD Tryz.prog 150 #[.pointer (some ⟨X,0,none⟩),.pointer (some ⟨N,0,none⟩),.pointer (some ⟨E,0,none⟩)] .returning w fun e c d=>e= .returned (.tuple #[])∧c= .returning∧d=w:=by
 refine callsD_of_wpS Tryz.func150 rfl fun a f b=>?_
 apply wpS_seq
 apply wpS_region
 simp[wpOpsS,go_sem,recoverD,b,Tryz.ntmps150,Exit.thenS]
 apply wpS_seq
 apply wpS_region
 simp[wpOpsS,go_sem,Exit.thenS]
 refine wpS_cond (t:=false) (by simp[Act.eval,Array.replicate]) ?_
 simp only[Bool.false_eq_true,if_false]
 refine wpS_of_wp (wp_skip ?_)
 cases a
 simp_all[bodyPostS,results,Tryz.results150,Exit.thenS]
theorem RM(X N E:Nat)(c:Int)(a b l m n o:Value)(F:Ac)(w:World)(hs:Sat (Sl.block X AM [l,m,n,o]*(Sl.block N MU [a]*(Sl.block E EN [b]*F))) w):
 CallsD Tryz.prog 150 #[.pointer (some ⟨X,0,none⟩),.pointer (some ⟨N,0,none⟩),.pointer (some ⟨E,0,none⟩)] (.panicking (C1 c)) w fun e j k=>e= .returned (.tuple #[])∧j= .panicking [{ v:= .iface Y8 (.agg #[.int .i64 c]),recovered:=true }]∧Sat (Sl.block X AM [.int .i64 0,.int .i64 0,.int .i64 0,.int .i64 0]*(Sl.block N MU [.int .i64 0]*(Sl.block E EN [.int .i64 c]*F))) k:=by
 haveI:=hs.i
 refine callsD_of_wpS Tryz.func150 rfl fun d p f=>?_
 unfold C1 at f
 apply wpS_seq
 apply wpS_region
 simp[wpOpsS,go_sem,recoverD,f,Tryz.ntmps150,Exit.thenS]
 apply wpS_seq
 apply wpS_region
 simp[wpOpsS,go_sem,Exit.thenS]
 refine wpS_cond (t:=true) (by simp[Act.eval,Array.replicate]) ?_
 simp only[if_true]
 refine wpS_of_wp ?_
 go_wp2_with fail
 refine Calls.mono (FM c _ _ hs) ?_
 rintro q r ⟨rfl,g⟩
 haveI:=g.i
 go_wp2
 simp[bodyPostS,results,Tryz.results150]
 exact Av (by ac_rfl)
theorem Q9(h:Th)(s:TS)(root at_:Int)(F:Ac)(w:World)(hs:Sat (Ae h s*F) w)(hb:MA root at_ s≠ .bad):
 Calls Tryz.prog 116 #[.pointer (some ⟨h.t,0,none⟩),.int .i64 root,.int .i64 at_] w (WY h F (MA root at_ s) (fun z=>Ui z.1 z.2 0) (fun k=>Ui ⟨0,0,0,0⟩ 0 k)):=by
 have G: ∀(r:Fn)(first cap:Array Value)(w:World),(Instr.makeFunc r first cap).run Tryz.prog w= .ok (.func r first cap) w:=fun _ _ _ _=>rfl
 obtain ⟨R,m⟩:=Aq (MA root at_ s)
 rw[m] at hb⊢
 have j:Aside (R≠ .bad):=hb
 unfold MA at m
 have a:Aside (M.bind (Ec Ai root) (fun n=>if at_<0∨n≤at_ then M.fail 2 else IB Ai root at_) s=R):=m
 have c1:=fun F w q=>FR h s root F w q (AX a.out j.out)
 obtain ⟨x,hx⟩:=Aq (Ec Ai root s)
 have b:Aside (Ec Ai root s=x):=hx
 rw[hx] at c1
 haveI:=hs.i
 unfold Ui
 simp only
 clear hb m hx
 go_enter_defers Tryz.func116,Tryz.ntmps116
 go_wp2_with fail
 with_reducible refine Calls.mono (c1 _ _ (Af (Ae h s))) ?_
 rintro e L h1
 cases x with
 |bad=>exact absurd b.out (AX a.out j.out)
 | fault k s1 =>
  obtain ⟨rfl,p⟩:=h1
  have c:=Bn a.out b.out
  subst c
  have B:=Q' b.out
  have D:((k:Int) !=0)=true:=by simpa using B
  unfold KC
  haveI:=p.i
  clear c1 a b j
  go_wp2
  go_region
  all_goals
   go_wp2
   simp[bodyPostD,Leaves,settle,results,Tryz.results116,go_sem]
   exact ⟨rfl,Ap _ _⟩
 | ok n s1 =>
  obtain ⟨rfl,p⟩:=h1
  have d:=AW a.out b.out
  unfold KC
  haveI:=p.i
  clear c1
  by_cases l:at_<0∨n≤at_
  · have c:R= .fault 2 s1:=by rw[if_pos l] at d;exact d.symm
    subst c
    clear d a b j
    by_cases h1:at_<0
    · clear l
      go_wp2
      simp[bodyPostD,Leaves,settle,results,Tryz.results116,go_sem]
      exact ⟨rfl,Ap _ _⟩
    have v:n≤at_:=by omega
    clear l
    go_wp2
    simp[bodyPostD,Leaves,settle,results,Tryz.results116,go_sem]
    exact ⟨rfl,Ap _ _⟩
  have h1: ¬at_<0:=by omega
  have v: ¬n≤at_:=by omega
  rw[if_neg l] at d
  have c2:=fun F w q=>OK h s1 root at_ F w q (by rw[d];exact j.out)
  rw[d] at c2
  clear l d b a
  go_wp2_with fail
  with_reducible refine Calls.mono (c2 _ _ (Af (Ae h s1))) ?_
  rintro e u g
  obtain ⟨N,y⟩:=Aq w.heap.size
  rw[y] at g⊢
  clear c2
  cases R with
  |bad=>exact absurd rfl j.out
  | fault k s2 =>
    obtain ⟨rfl,o⟩:=g
    haveI:=o.i
    show bodyPostD _ _ _ (.panic (C1 k)) _ u
    refine leaves_cons (f:=150) (args:= #[.pointer (some ⟨N,0,none⟩),.pointer (some ⟨N+1,0,none⟩),.pointer (some ⟨N+1+1,0,none⟩)]) (by simp) (by simp[go_sem]) ?_
    refine (RM N (N+1) (N+1+1) k _ _ _ _ _ _ _ u (RW (Sl.block N AM [.int .i64 0,.int .i64 0,.int .i64 0,.int .i64 0]) (Sl.block (N+1) MU [.int .i64 0]) (Sl.block (N+1+1) EN [.int .i64 0]))).mono ?_
    rintro e I J ⟨rfl,rfl,H⟩
    haveI:=H.i
    simp[Leaves,settle,results,Tryz.results116,go_sem]
    exact ⟨rfl,Ap _ _⟩
  | ok z s2 =>
    obtain ⟨v2,K,rfl,⟨rfl,rfl⟩,o⟩:=g
    rw[Aw] at o
    obtain ⟨⟨O,Q,T,U⟩,V⟩:=z
    haveI:=o.i
    go_wp2
    go_region
    all_goals
     go_wp2
     refine leaves_cons (f:=150) (args:= #[.pointer (some ⟨N,0,none⟩),.pointer (some ⟨N+1,0,none⟩),.pointer (some ⟨N+1+1,0,none⟩)]) (by simp) (by simp[go_sem]) ?_
     refine (VG _ _ _ _).mono ?_
     rintro e I J ⟨rfl,rfl,rfl⟩
     simp[Leaves,settle,results,Tryz.results116,go_sem]
     exact ⟨rfl,Ap _ _⟩
def j7(h:Th)(F:Ac)(r:EX TS (List Au))(e:Ending)(b:World):Prop:=match r with
 | .ok l s=> ∃(a:Option Addr)(c:Nat),e= .returned (.tuple #[.slice a l.length c,.int .i64 0])∧Sat (rw AM 4 (.slice a l.length c) (Bb l)*(Ae h s*F)) b
 | .fault n s=>e= .returned (.tuple #[.slice none 0 0,.int .i64 n])∧Sat (Ae h s*F) b
 | .bad=>False
theorem X8(h:Th)(s:TS)(root:Int)(F:Ac)(w:World)(hs:Sat (Ae h s*F) w)(hb:QE Ai root s≠ .bad):
 Calls Tryz.prog 44 #[.pointer (some ⟨h.t,0,none⟩),.int .i64 root] w (j7 h F (QE Ai root s)):=by
 have D: ∀(r:Fn)(first cap:Array Value)(w:World),(Instr.makeFunc r first cap).run Tryz.prog w= .ok (.func r first cap) w:=fun _ _ _ _=>rfl
 obtain ⟨R,a⟩:=Aq (QE Ai root s)
 rw[a] at hb⊢
 have j:Aside (R≠ .bad):=hb
 unfold QE at a
 have h0:=hs.AH (e:=AM) (s:=4)
 haveI:=h0.i
 clear hb hs
 by_cases d:root=0
 · rw[if_pos d] at a
   have m:R= .ok [] s:=a.symm
   subst m
   subst d
   clear a j
   go_enter_defers Tryz.func44,Tryz.ntmps44
   go_wp2
   refine leaves_cons (f:=108) (args:= #[.pointer (some ⟨w.heap.size,0,none⟩),.pointer (some ⟨w.heap.size+1,0,none⟩)]) (by simp) (by simp[go_sem]) ?_
   refine (Od _ _ _).mono ?_
   rintro e x I ⟨rfl,rfl,rfl⟩
   simp[Leaves,settle,results,Tryz.results44,go_sem]
   refine ⟨none,0,rfl,?_⟩
   show Sat (rw AM 4 (.slice none 0 0) []*(Ae h s*F)) _
   exact AD _ _ _
 rw[if_neg d] at a
 have G:((root:Int)==0)=false:=by simpa using d
 have b:=fun N F w q=>Y' 21 h s root [] N none 0 F w (by omega) (by simp) q (by rw[a];exact j.out)
 rw[a,show (21:Int)-((21:Nat):Int)=0 from rfl] at b
 obtain ⟨N,k⟩:=Aq w.heap.size
 clear a
 go_enter_defers Tryz.func44,Tryz.ntmps44
 go_wp2_with fail
 have v:Sat (Ae h s*(Sl.block N OZ [.slice none 0 0]*(rw AM 4 (.slice none 0 0) []*(Sl.block (N+1) EN [.int .i64 0]*F)))) ((w.alloc (.cells #[.slice none 0 0] OZ)).alloc (.cells #[.int .i64 0] EN)):=by
  rw[←k]
  exact Av (by ac_rfl)
 try rw[k]
 clear k
 with_reducible refine Calls.mono (b N _ _ v) ?_
 rintro e y u
 cases R with
 |bad=>exact absurd rfl j.out
 | fault p s2 =>
   obtain ⟨rfl,v2,g⟩:=u
   haveI:=g.i
   show bodyPostD _ _ _ (.panic (C1 p)) _ y
   refine leaves_cons (f:=108) (args:= #[.pointer (some ⟨N,0,none⟩),.pointer (some ⟨N+1,0,none⟩)]) (by simp) (by simp[go_sem]) ?_
   refine (Rh N (N+1) p _ _ _ y (AP (Sl.block N OZ [v2]) (Sl.block (N+1) EN [.int .i64 0]))).mono ?_
   rintro e x J ⟨rfl,rfl,H⟩
   haveI:=H.i
   simp[Leaves,settle,results,Tryz.results44,go_sem]
   exact ⟨rfl,Ap _ _⟩
 | ok l s2 =>
   obtain ⟨rfl,hl,B,c2,g⟩:=u
   have z:Aside (l.length≤1024):=hl
   obtain ⟨n,o⟩:=Aq l.length
   have c:Aside (l.length=n):=o
   rw[o] at g
   haveI:=g.i
   clear v b o hl
   go_wp2
   refine leaves_cons (f:=108) (args:= #[.pointer (some ⟨N,0,none⟩),.pointer (some ⟨N+1,0,none⟩)]) (by simp) (by simp[go_sem]) ?_
   refine (Od _ _ _).mono ?_
   rintro e x J ⟨rfl,rfl,rfl⟩
   simp[Leaves,settle,results,Tryz.results44,go_sem]
   refine ⟨B,c2,?_,?_⟩
   ·rw[c.out]
   rw[c.out]
   exact AD _ _ _
abbrev Y9:TypeId:=45
theorem T2(N E:Nat)(w:World):
 CallsD Tryz.prog 118 #[.pointer (some ⟨N,0,none⟩),.pointer (some ⟨E,0,none⟩)] .returning w fun e c d=>e= .returned (.tuple #[])∧c= .returning∧d=w:=by
 refine callsD_of_wpS Tryz.func118 rfl fun a f b=>?_
 apply wpS_seq
 apply wpS_region
 simp[wpOpsS,go_sem,recoverD,b,Tryz.ntmps118,Exit.thenS]
 apply wpS_seq
 apply wpS_region
 simp[wpOpsS,go_sem,Exit.thenS]
 refine wpS_cond (t:=false) (by simp[Act.eval,Array.replicate]) ?_
 simp only[Bool.false_eq_true,if_false]
 refine wpS_of_wp (wp_skip ?_)
 cases a
 simp_all[bodyPostS,results,Tryz.results118,Exit.thenS]
theorem Vv(N E:Nat)(c:Int)(a b:Value)(F:Ac)(w:World)(hs:Sat (Sl.block N Y9 [a]*(Sl.block E EN [b]*F)) w):
 CallsD Tryz.prog 118 #[.pointer (some ⟨N,0,none⟩),.pointer (some ⟨E,0,none⟩)] (.panicking (C1 c)) w fun e j k=>e= .returned (.tuple #[])∧j= .panicking [{ v:= .iface Y8 (.agg #[.int .i64 c]),recovered:=true }]∧Sat (Sl.block N Y9 [.slice none 0 0]*(Sl.block E EN [.int .i64 c]*F)) k:=by
 haveI:=hs.i
 refine callsD_of_wpS Tryz.func118 rfl fun d l f=>?_
 unfold C1 at f
 apply wpS_seq
 apply wpS_region
 simp[wpOpsS,go_sem,recoverD,f,Tryz.ntmps118,Exit.thenS]
 apply wpS_seq
 apply wpS_region
 simp[wpOpsS,go_sem,Exit.thenS]
 refine wpS_cond (t:=true) (by simp[Act.eval,Array.replicate]) ?_
 simp only[if_true]
 refine wpS_of_wp ?_
 go_wp2_with fail
 refine Calls.mono (FM c _ _ hs) ?_
 rintro m n ⟨rfl,g⟩
 haveI:=g.i
 go_wp2
 simp[bodyPostS,results,Tryz.results118]
 exact Av (by ac_rfl)
end Go.Proofs.YtfhbmblbidcmmaaGreat
namespace Go.Tr
section
variable {σ:Type} (P:List Int→Prop)
theorem PZ{g:Int→List Int→M σ (List Int)}(b: ∀no l s l' s',P l→g no l s= .ok l' s'→P l'): ∀(ks:List Kd)(l:List Int)(s:σ)(l':List Int)(s':σ),P l→Gv g ks l s= .ok l' s'→P l'
 | [],l,s,l',s',h,e=>by
  have:(EX.ok l s:EX σ (List Int))= .ok l' s':=e
  cases this;exact h
 | k :: ks, l, s, l', s', h, e => by
   have e':M.bind (g k.As l) (Gv g ks) s= .ok l' s':=e
   cases hm:g k.As l s with
   |ok a s1=>exact PZ b ks a s1 l' s' (b _ _ _ _ _ h hm) (by have:=e';unfold M.bind at this;rw[hm] at this;exact this)
   |fault n s1=>unfold M.bind at e';rw[hm] at e';cases e'
   |bad=>unfold M.bind at e';rw[hm] at e';cases e'
theorem MF{rd:Int→M σ Nd}(c: ∀l no,P l→l.contains no=false→l.length≤1048576→0≤no→no<1099511627776→P (l++ [no])): ∀(f:Nat)(no:Int)(l:List Int)(s:σ)(l':List Int)(s':σ),P l→BF rd f no l s= .ok l' s'→P l'
 |0,no,l,s,l',s',h,e=>by cases e
 | f + 1, no, l, s, l', s', h, e => by
  unfold BF M.bind at e
  cases hm:rd no s with
  | ok n s1 =>
   rw[hm] at e
   have a:(if l.contains no=true then M.pure l else if 1048576<l.length∨no<0∨1099511627776≤no then (fun _=> .bad) else Gv (BF rd f) n.kids (l++ [no])) s1= .ok l' s':=e
   by_cases b:l.contains no=true
   ·rw[if_pos b] at a
    have:(EX.ok l s1:EX σ (List Int))= .ok l' s':=a
    cases this;exact h
   rw[if_neg b] at a
   by_cases hb:1048576<l.length∨no<0∨1099511627776≤no
   ·simp_all
   rw[if_neg hb] at a
   exact PZ P (fun no l s l' s' h e=>MF c f no l s l' s' h e) n.kids (l++ [no]) s1 l' s' (c l no h (by simpa using b) (by omega) (by omega) (by omega)) a
  |fault n s1=>rw[hm] at e;cases e
  |bad=>rw[hm] at e;cases e
def Rz(l:List Int):Prop:=l.length≤1048577∧ ∀x∈l,0≤x∧x<1099511627776
theorem Vs{rd:Int→M σ Nd}{f:Nat}{no:Int}{s:σ}{l':List Int}{s':σ}(e:BF rd f no [] s= .ok l' s'):Rz l':=by
 refine MF Rz ?_ f no [] s l' s' ⟨by simp,by simp⟩ e
 intro l no h a hl h0 h1
 refine ⟨by simp;omega,fun x hx=>?_⟩
 rcases List.mem_append.1 hx with hx|hx
 ·exact h.2 x hx
 simp_all
end
end Go.Tr
namespace Go.Proofs.YtfhbmblbidcmmaaGreat
open Go.Tr
def El(p:Int×Int):List Int:=(List.range (p.2-p.1).toNat).map fun k=>p.1+(k:Nat)
def Eh(l:List (Int×Int)):List Int:=l.flatMap El
theorem LY(p:Int×Int)(x:Int):x∈El p↔p.1≤x∧x<p.2:=by
 unfold El
 constructor
 ·grind
 intro ⟨h1,a⟩
 exact List.mem_map.2 ⟨(x-p.1).toNat,List.mem_range.2 (by omega),by omega⟩
theorem Jh(l:List (Int×Int))(x:Int):x∈Eh l↔Gm l x:=by
 unfold Eh Gm
 rw[List.mem_flatMap]
 constructor
 ·rintro ⟨p,hp,h⟩;exact ⟨p,hp,(LY p x).1 h⟩
 rintro ⟨p,hp,h⟩;exact ⟨p,hp,(LY p x).2 h⟩
theorem Gz{l:List (Int×Int)}(a:F7 l):(Eh l).Pairwise (· < ·):=by induction l with
 |nil=>exact List.Pairwise.nil
 | cons p l b =>
  have h1:=b ⟨fun q hq=>a.1 q (List.mem_cons_of_mem _ hq),(List.pairwise_cons.1 a.2).2⟩
  refine List.pairwise_append.2 ⟨?_,h1,fun x hx y hy=>?_⟩
  ·unfold El
   rw[List.pairwise_map]
   exact List.pairwise_lt_range.imp fun h=>by omega
  have c:=(LY p x).1 hx
  obtain ⟨q,hq,d⟩:=(Jh l y).1 hy
  have:=(List.pairwise_cons.1 a.2).1 q hq
  omega
theorem Vp{y x:Int}(h:y≤x):El (y,x)++ [x]=El (y,x+1):=by
 unfold El
 rw[show (x+1-y).toNat=(x-y).toNat+1 by omega,List.range_succ,List.map_append,List.map_singleton]
 grind
theorem Qq(y:Int):El (y,y)= []:=by simp[El]
theorem Qp(y z:Int):(El (y,z)).length=(z-y).toNat:=by simp[El]
theorem Qr{a:List (Int×Int)}{i:Nat}{p:Int×Int}(h:a[i]?=some p):Eh (a.take (i+1))=Eh (a.take i)++El p:=by simp[Eh,List.take_add_one,h,List.flatMap_append]
theorem Ru(a:List (Int×Int))(i:Nat):(Eh (a.take i)).length≤(Eh a).length:=by
 conv=>rhs;rw[←List.take_append_drop i a]
 unfold Eh
 grind
def eP(a:List (Int×Int)):Prop:= ∀(i:Nat)(y z:Int),a[i]?=some (y,z)→0≤y∧y<z∧z≤1099511627776∧(Eh (a.take i)).length+(z-y).toNat≤1048577
theorem bC{a:List (Int×Int)}(c:F7 a)(hb: ∀x∈Eh a,0≤x∧x<1099511627776)(hl:(Eh a).length≤1048577):eP a:=by
 intro i y z h
 have hm:=List.mem_of_getElem? h
 have h1:=c.1 _ hm
 have d:=hb y ((Jh a y).2 ⟨_,hm,by simp only;omega,h1⟩)
 have e:=hb (z-1) ((Jh a (z-1)).2 ⟨_,hm,by simp only;omega,by simp only;omega⟩)
 have b:=Ru a (i+1)
 rw[Qr h,List.length_append,Qp] at b
 omega
theorem Tp{l:List (Int×Int)}(h:F7 l):l.length≤(Eh l).length:=by induction l with
 |nil=>simp
 | cons p l a =>
  have h1:=a ⟨fun q hq=>h.1 q (List.mem_cons_of_mem _ hq),(List.pairwise_cons.1 h.2).2⟩
  have b:=h.1 p List.mem_cons_self
  have c:(Eh (p::l)).length=(p.2-p.1).toNat+(Eh l).length:=by simp[Eh,El]
  grind
