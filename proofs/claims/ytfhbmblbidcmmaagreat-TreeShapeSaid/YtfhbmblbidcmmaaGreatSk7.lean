/- treeShape holds for every input. No condition. (part 7) -/
import Derived.Test.YtfhbmblbidcmmaaGreatSk1
set_option linter.all false
namespace Go.QK
open Go.Sl
def pt(a:Nat×Nat):Value:= .pointer (some ⟨a.1,a.2,none⟩)
def Fu(u v:Nat×Nat):Ac:=Sl.cell u.1 (u.2+4) (pt v)*Sl.cell v.1 (v.2+3) (pt u)
def chain:List (Nat×Nat)→Ac
 |u::v::l=>Fu u v*chain (v::l)
 |_=>1
structure Nd where
 b:Nat
 key:Int
 pins:Int
 Jg:Bool
abbrev A8:Int→Value:=fun n=>Value.int .i64 n
def item(a:TypeId)(n:Nd):Ac:=Ef n.b a 5*(Sl.cell n.b 0 (.int .i64 n.key)*(Sl.cell n.b 1 (.int .i64 n.pins)*Sl.cell n.b 2 (.bool n.Jg)))
def items(a:TypeId):List Nd→Ac
 | []=>1
 |n::l=>item a n*items a l
def kv(n:Nd):Int×Value:=(n.key,.pointer (some ⟨n.b,0,none⟩))
def Jn(M:Nat)(ns:List Nd):Ac:=fun h=> ∃ms,ms.Perm (ns.map kv)∧mp A8 M ms h
def ring(L:Nat)(ns:List Nd):List (Nat×Nat):=(L,1)::(ns.map (fun n=>(n.b,0))++ [(L,1)])
abbrev core(tl:TypeId)(L M:Nat)(cap:Int):Ac:=
 Ef L tl 7*(Sl.cell L 0 (.int .i64 cap)*(Sl.cell L 1 (.int .i64 0)*(Sl.cell L 2 (.int .i64 0)*(Sl.cell L 3 (.bool false)*Sl.cell L 6 (.map (some M))))))
def CN(b a:TypeId)(L M:Nat)(cap:Int)(ns:List Nd):Ac:=
 core b L M cap*(Jn M ns*(chain (ring L ns)*items a ns))
theorem ZH{M:Nat}{ns c:List Nd}(h:ns.Perm c):Jn M ns=Jn M c:=by
 funext h'
 apply propext
 constructor
 ·rintro ⟨ms,a,b⟩;exact ⟨ms,a.trans (h.map kv),b⟩
 rintro ⟨ms,a,b⟩;exact ⟨ms,a.trans (h.map kv).symm,b⟩
theorem UU{b:TypeId}{ns a:List Nd}(h:ns.Perm a):items b ns=items b a:=by induction h with
 |nil=>rfl
 |cons x _ d=>simp[items,d]
 |swap x y l=>simp only[items];rw[BC]
 |trans _ _ h1 c=>rw[h1,c]
theorem Dx(a:TypeId)(l1 l2:List Nd):items a (l1++l2)=items a l1*items a l2:=by induction l1 with
 |nil=>simp[items,Aw]
 |cons n l b=>simp[items,b,Az]
theorem FD(l1:List (Nat×Nat))(u:Nat×Nat)(l2:List (Nat×Nat)):chain (l1++u::l2)=chain (l1++ [u])*chain (u::l2):=by induction l1 with
 |nil=>simp[chain,Aw]
 | cons v l a => cases l with
  |nil=>simp[chain,Br]
  | cons x l =>
   simp only[List.cons_append] at a⊢
   simp[chain,Az,a]
def before(L:Nat)(l1:List Nd):Nat×Nat:=match l1.getLast? with
 |some n=>(n.b,0)
 |none=>(L,1)
def behind(L:Nat)(l2:List Nd):Nat×Nat:=match l2 with
 |n::_=>(n.b,0)
 | []=>(L,1)
theorem VA(L:Nat)(l1 l2:List Nd): ∃p q:List (Nat×Nat),(∀aF:List Nd,ring L (l1++aF++l2)=p++before L l1::(aF.map (fun n=>(n.b,0))++behind L l2::q)):=by
 have h1: ∃p,(L,1)::l1.map (fun n=>(n.b,0))=p++ [before L l1]:=by
  unfold before
  rcases List.eq_nil_or_concat l1 with rfl|⟨l,n,rfl⟩
  ·simp
  exact ⟨(L,1)::l.map (fun n=>(n.b,0)),by simp⟩
 have a: ∃q,l2.map (fun n=>(n.b,0))++ [(L,1)]=behind L l2::q:=by
  unfold behind
  cases l2 with
  |nil=>exact ⟨[],rfl⟩
  |cons n l=>exact ⟨l.map (fun n=>(n.b,0))++ [(L,1)],by simp⟩
 obtain ⟨p,hp⟩:=h1
 obtain ⟨q,hq⟩:=a
 refine ⟨p,q,fun aF=>?_⟩
 have:ring L (l1++aF++l2)=((L,1)::l1.map (fun n=>(n.b,0)))++(aF.map (fun n=>(n.b,0))++(l2.map (fun n=>(n.b,0))++ [(L,1)])):=by simp[ring]
 simp_all
theorem ZW(L:Nat)(l1:List Nd)(n:Nd)(l2:List Nd): ∃R:Ac,
 chain (ring L (l1++n::l2))=Fu (before L l1) (n.b,0)*Fu (n.b,0) (behind L l2)*R∧
 chain (ring L (l1++l2))=Fu (before L l1) (behind L l2)*R:=by
 obtain ⟨p,q,h⟩:=VA L l1 l2
 refine ⟨chain (p++ [before L l1])*chain (behind L l2::q),?_,?_⟩
 ·have:=h [n]
  simp only[List.map_cons,List.map_nil,List.cons_append,List.nil_append,List.append_assoc] at this
  rw[this,FD]
  simp only[chain]
  ac_rfl
 have:=h []
 simp only[List.map_nil,List.nil_append,List.append_nil] at this
 rw[this,FD]
 simp only[chain]
 ac_rfl
theorem Mi(L:Nat)(ns:List Nd): ∃R:Ac,chain (ring L ns)=Fu (before L ns) (L,1)*R∧
 ∀n:Nd,chain (ring L (ns++ [n]))=Fu (before L ns) (n.b,0)*Fu (n.b,0) (L,1)*R:=by
 have h1: ∃p,(L,1)::ns.map (fun n=>(n.b,0))=p++ [before L ns]:=by
  unfold before
  rcases List.eq_nil_or_concat ns with rfl|⟨l,n,rfl⟩
  · exact ⟨[],rfl⟩
  exact ⟨(L,1)::l.map (fun n=>(n.b,0)),by simp⟩
 obtain ⟨p,hp⟩:=h1
 refine ⟨chain (p++ [before L ns]),?_,?_⟩
 · have:ring L ns=p++before L ns:: [(L,1)]:=by
    have:ring L ns=((L,1)::ns.map (fun n=>(n.b,0)))++ [(L,1)]:=by simp[ring]
    rw[this,hp];simp
   rw[this,FD]
   simp only[chain,Br]
   ac_rfl
 intro n
 have:ring L (ns++ [n])=p++before L ns:: [(n.b,0),(L,1)]:=by
  have:ring L (ns++ [n])=((L,1)::ns.map (fun n=>(n.b,0)))++ [(n.b,0),(L,1)]:=by simp[ring]
  rw[this,hp];simp
 rw[this,FD]
 simp only[chain,Br]
 ac_rfl
theorem V9(L:Nat)(ns:List Nd): ∃R:Ac,chain (ring L ns)=Fu (L,1) (behind L ns)*R:=by cases ns with
 |nil=>exact ⟨1,by simp[ring,chain,behind]⟩
 |cons n l=>exact ⟨chain ((n.b,0)::(l.map (fun n=>(n.b,0))++ [(L,1)])),by simp[ring,chain,behind]⟩
theorem LV{κ:Type}[DecidableEq κ]{ms:List (κ×Value)} : ∀{ns:List (κ×Value)},ms.Perm ns→(ns.map (·.1)).Nodup→ ∀k,CK k ms=CK k ns:=by
 intro ns hp
 induction hp with
 |nil=>intro _ _;rfl
 |cons x _ d=>simp_all[List.map_cons,List.nodup_cons,CK]
 |swap x y l=>grind [CK]
 |trans h1 c a b=>grind
theorem Vg{k:Int}{l1:List Nd}{n:Nd}{l2:List Nd}(c:n.key=k)(a:((l1++n::l2).map (·.key)).Nodup):CK k ((l1++n::l2).map kv)=some (.pointer (some ⟨n.b,0,none⟩)):=by induction l1 with
 |nil=>simp[CK,kv,c]
 | cons m l d =>
  simp only[List.cons_append,List.map_cons,List.nodup_cons] at a
  simp only[List.cons_append,List.map_cons,CK]
  rw[if_neg,d a.2]
  intro e
  apply a.1
  simp[kv,e,c]
theorem Qj{k:Int}{ns:List Nd}(h: ∀n∈ns,n.key≠k):CK k (ns.map kv)=none:=by induction ns with
 |nil=>rfl
 | cons m l b =>
  simp only[List.map_cons,CK]
  rw[if_neg,b fun n a=>h n (List.mem_cons_of_mem _ a)]
  intro e
  exact h m (List.mem_cons_self) e.symm
theorem Qk{ms:List (Int×Value)}{ns:List Nd}(hp:ms.Perm (ns.map kv))(a:(ns.map (·.key)).Nodup){n:Nd}(h: ∀m∈ns,m.key≠n.key):(EO n.key (.pointer (some ⟨n.b,0,none⟩)) ms).Perm ((ns++ [n]).map kv):=by
 have c:((ns.map kv).map (·.1)).Nodup:=by simpa[List.map_map,Function.comp_def,kv] using a
 rw[Ow (by rw[LV hp c];exact Qj h)]
 simp only[List.map_append,List.map_cons,List.map_nil]
 exact hp.append_right _
theorem XI{κ:Type}[DecidableEq κ]{ms ns:List (κ×Value)}(hp:ms.Perm ns):(ns.map (·.1)).Nodup→ ∀k,(FG k ms).Perm (FG k ns):=by induction hp with
 |nil=>intro _ _;exact .nil
 | cons x h f =>
  intro a k
  simp only[FG]
  split
  ·omega
  simp_all
 | swap x y l =>
  intro a k
  simp only[FG]
  split<;>split
  ·simp_all
  ·rfl
  ·rfl
  exact .swap _ _ _
 | trans h1 e c d =>
  intro a k
  have b:=(e.map (·.1)).nodup_iff.2 a
  exact (c b k).trans (d a k)
theorem Vf{k:Int}{l1:List Nd}{n:Nd}{l2:List Nd}(b:n.key=k)(a:((l1++n::l2).map (·.key)).Nodup):FG k ((l1++n::l2).map kv)=(l1++l2).map kv:=by induction l1 with
 |nil=>simp[FG,kv,b]
 | cons m l c =>
  simp only[List.cons_append,List.map_cons,List.nodup_cons] at a
  simp only[List.cons_append,List.map_cons,FG]
  rw[if_neg,c a.2]
  intro e
  apply a.1
  simp[kv,e,b]
theorem Sat.Ge{M:Nat}{ns:List Nd}{F:Ac}{w:World}(hs:Sat (Jn M ns*F) w): ∃ms o,ms.Perm (ns.map kv)∧FT A8 o ms∧Sat (raw M o*F) w:=by
 obtain ⟨_,⟨g,k,d,rfl,⟨ms,hp,hr⟩,hF⟩,H⟩:=hs
 obtain ⟨o,h1,a⟩:=Sat.Dg (kf:=A8) (b:=M) (ms:=ms) (F:=F) ⟨_,⟨g,k,d,rfl,hr,hF⟩,H⟩
 grind
theorem Sat.Jo{M:Nat}{ns:List Nd}{F:Ac}{w:World}{ms:List (Int×Value)}{o:Obj}(hp:ms.Perm (ns.map kv))(a:FT A8 o ms)(hs:Sat (raw M o*F) w):Sat (Jn M ns*F) w:=by
 obtain ⟨_,⟨g,k,d,rfl,hr,hF⟩,H⟩:=Sat.Es a hs
 exact ⟨_,⟨g,k,d,rfl,⟨ms,hp,hr⟩,hF⟩,H⟩
theorem Ko{ns:List Nd}(a:(ns.map (·.key)).Nodup):((ns.map kv).map (·.1)).Nodup:=by simpa[List.map_map,Function.comp_def,kv] using a
theorem H7(ns:List Nd)(k:Int):(∃l1 n l2,ns=l1++n::l2∧n.key=k)∨(∀n∈ns,n.key≠k):=by
 by_cases h: ∃n∈ns,n.key=k
 ·obtain ⟨n,a,b⟩:=h
  obtain ⟨l1,l2,e⟩:=List.append_of_mem a
  grind
 simp_all
