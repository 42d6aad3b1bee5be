/-
  Several texts in one: TTame, TNor, TNorB, TLaw0, TLaw1, TNorC, ZLaw1, TSim, TSimB, ZPairP, TRows, TLaid.
-/
import Derived.Test.YtmfdlglhngmacaaGreatDoorYN
import Derived.Test.YtmfdlglhngmacaaGreatDoorYL
import Derived.Test.YtmfdlglhngmacaaGreatDoorYK
import Derived.Test.YtmfdlglhngmacaaGreatDoorYI
import Derived.Test.YtmfdlglhngmacaaGreatDoorYJ
import Derived.Test.YtmfdlglhngmacaaGreatDoorYS
import Derived.Test.YtmfdlglhngmacaaGreatDoorYE
import Derived.Test.YtmfdlglhngmacaaGreatDoorRows
import Derived.LaidLaws
import Derived.LaidSub
import Derived.Handed
set_option linter.unusedSimpArgs false
set_option linter.unusedVariables false
set_option linter.defProp false
set_option maxRecDepth 100000
/-
  What the maker makes is well formed, small; a name that is not there is not used.
-/
namespace Go.Lite
open Go Go.Proofs
theorem aBp {t:Str}(h:t∈intT):t.length≤1000∧∃ z:Int,z.natAbs<10^200∧t=decZ z:=by
 have pos:∀ d:Str,Digs d→d≠[]→d[0]? ≠ some 48→d.length≤30→d.length≤1000∧∃ z:Int,z.natAbs<10^200∧d=decZ z:=fun d h1 h2 h3 h4=>by
  have e:=a7T h1 h2 h3
  refine⟨by omega,(dval d:Nat),?_,by rw[vM,e]⟩
  have:dval d<10^200:=(kQ (by decide)).1 (by rw[e];omega)
  simpa using this
 have neg:∀ c:Nat,48<c→c≤57→([45,c]:Str).length≤1000∧∃ z:Int,z.natAbs<10^200∧([45,c]:Str)=decZ z:=fun c h1 h2=>by
  refine⟨by simp,-((c-48:Nat):Int),?_,?_⟩
  · have:(-((c-48:Nat):Int)).natAbs≤9:=by omega
    exact Nat.lt_of_le_of_lt this (by decide)
  · rw[a2h (by omega),zN (by omega)]
    simp;omega
 simp only[intT,List.mem_cons,List.not_mem_nil,or_false]at h
 rcases h with rfl|rfl|rfl|rfl|rfl|rfl|rfl|rfl|rfl
 · exact⟨by simp,0,by decide,by rw[show(0:Int)=((0:Nat):Int)from rfl,vM,zN (by omega)]⟩
 · exact pos _ (by intro c hc;simp at hc;omega) (by simp) (by simp) (by simp)
 · exact pos _ (by intro c hc;simp at hc;omega) (by simp) (by simp) (by simp)
 · exact neg 51 (by decide) (by decide)
 · exact pos _ (by intro c hc;simp at hc;omega) (by simp) (by simp) (by simp)
 · exact neg 53 (by decide) (by decide)
 · exact pos _ (by intro c hc;simp at hc;omega) (by simp) (by simp) (by simp)
 · exact pos _ (by intro c hc;simp at hc;omega) (by simp) (by simp) (by simp)
 · exact pos _ (by intro c hc;simp at hc;omega) (by simp) (by simp) (by simp)
theorem sF (s:Str):∀ (l:List Str) (i:Nat),0<vX s l i→s∈l∧vX s l i≤2
 | [],i,h=>by simp[vX]at h
 | p :: l, i, h => by
   rw[vX]at h ⊢
   by_cases hp:(p==s)=true
   · rw[if_pos hp]
     have:p=s:=by simpa using hp
     exact⟨by simp[this],by split<;>omega⟩
   · rw[if_neg hp]at h ⊢
     obtain⟨h1,h2⟩:=sF s l (i+1) h
     exact⟨by simp[h1],h2⟩
theorem aE8 {k:Int}{t:Str}{ns:List Str}{l:List X}(h:shp k t ns.length l.length) (hl:X.wfs l):(X.mk k t ns l).wf:=by
 have ha:k=10→0<wD t→wD t≤2:=fun _ h=>(sF t primT 0 h).2
 rw[X.wf]
 refine⟨?_,?_,?_,?_,?_,hl⟩
 · rintro rfl hl;subst hl;simp[shp]at h
 · rintro rfl hl;subst hl;simp[shp]at h
 · rintro rfl;simp[shp]at h;omega
 · rintro rfl;simp[shp]at h;omega
 · rintro rfl
   have ha:=ha rfl
   simp[shp]at h
   omega
theorem aB6:∀ x:X,x.right→x.wf:=X.indA fun k t ns l ih h=>by
 obtain⟨h1,_,h3⟩:=h
 exact aE8 h1 ((X.wfs_iff l).2 fun x hx=>ih x hx ((a2q l).1 h3 x hx))
theorem aAR {t:Str}(h:0<wD t):t.length≤1000∧∀ c∈t,c<256:=by
 have:=(sF t primT 0 h).1
 have key:∀ t∈primT,t.length≤1000∧∀ c∈t,c<256:=by decide
 exact key t this
theorem aCz {k:Int}{t:Str}{m n:Nat}(h:shp k t m n) (h5:k=5→t.length≤1000∧∀ c∈t,c<256):bW k t:=by
 unfold bW
 rcases h with⟨rfl,h,_⟩|⟨rfl,h,_⟩|⟨rfl,rfl,_⟩|⟨rfl,h,_⟩|⟨rfl,h,_⟩|⟨rfl,rfl,_⟩|⟨rfl,rfl,_⟩|⟨rfl,rfl,_⟩|⟨rfl,rfl,_⟩|⟨rfl,h,_⟩
 · obtain⟨h1,z,h2,rfl⟩:=aBp h
   exact⟨⟨h1,a0j z⟩,fun _=>⟨z,h2,rfl⟩⟩
 · exact⟨by rcases h with rfl|rfl<;>decide,fun h=>absurd h (by decide)⟩
 · exact⟨⟨by simp,by simp⟩,fun h=>absurd h (by decide)⟩
 · exact⟨h.2,fun h=>absurd h (by decide)⟩
 · exact⟨h5 rfl,fun h=>absurd h (by decide)⟩
 · exact⟨⟨by simp,by simp⟩,fun h=>absurd h (by decide)⟩
 · exact⟨⟨by simp,by simp⟩,fun h=>absurd h (by decide)⟩
 · exact⟨⟨by simp,by simp⟩,fun h=>absurd h (by decide)⟩
 · exact⟨⟨by simp,by simp⟩,fun h=>absurd h (by decide)⟩
 · exact⟨aAR h,fun h=>absurd h (by decide)⟩
mutual
def X.no (w:Str):X→Prop
 | .mk k t _ l=>(k=5→t≠w)∧X.nos w l
def X.nos (w:Str):List X→Prop
 | []=>True
 | x::l=>x.no w∧X.nos w l
end
theorem X.nos_iff (w:Str):∀ (l:List X),X.nos w l↔∀ x∈l,x.no w
 | []=>by simp[X.nos]
 | x::l=>by simp[X.nos,X.nos_iff w l]
theorem a9P (n:Nat):(vdot n).length≤10:=by
 have:=a5X n
 rw[vdot,List.length_append]
 simp only[List.length_cons,List.length_nil];omega
theorem a8F (n:Nat) (h:n≤901):∀ c∈vdot n,c<256:=by
 unfold vdot numT
 intro c hc
 rcases List.mem_append.1 hc with hc|hc
 · simp only[List.mem_cons,List.not_mem_nil,or_false]at hc
   omega
 · by_cases h1:n<10<;>by_cases h2:n<100<;>simp only[h1,h2,if_true,if_false,List.mem_cons,List.not_mem_nil,or_false]at hc<;>omega
theorem a8g:∀ (x:X) (sc:List Str) (m m':Nat),x.good sc m m'→m'≤900→(∀ s∈sc,s.length≤1000∧∀ c∈s,c<256)→x.tame:=X.indA fun k t ns l ih sc m m' h hm hs=>by
 have hb:=nK _ sc m m' h
 obtain⟨h1,h2,h3,h4,h5⟩:=h
 have key:∀ (l:List X),(∀ x∈l,∀ sc m m',x.good sc m m'→m'≤900→(∀ s∈sc,s.length≤1000∧∀ c∈s,c<256)→x.tame)→∀ sc m m',X.goods l sc m m'→m'≤900→(∀ s∈sc,s.length≤1000∧∀ c∈s,c<256)→X.tames l∧m≤m':=by
  intro l
  induction l with
  | nil=>intro _ sc m m' h _ _;rw[X.goods]at h;exact⟨trivial,by omega⟩
  | cons x l ihl=>
    intro hx sc m m' h hm hs
    obtain⟨m1,g1,g2⟩:=h
    obtain⟨j1,j2⟩:=ihl (fun y hy=>hx y (by simp[hy])) sc m1 m' g2 hm hs
    have:=(nK x sc m m1 g1).1
    exact⟨⟨hx x (by simp) sc m m1 g1 (by omega) hs,j1⟩,by omega⟩
 rw[X.tame]
 have hnl:ns.length≤m'-m:=by
  have e:=hb.2
  rw[X.bnd]at e
  have:=congrArg List.length e
  rw[xS,List.length_append]at this
  omega
 have hsn:∀ s∈sc++ns,s.length≤1000∧∀ c∈s,c<256:=fun s hs'=>by
  rcases List.mem_append.1 hs' with hs'|hs'
  · exact hs s hs'
  · rw[h4,vds,List.mem_map]at hs'
    obtain⟨j,hj,rfl⟩:=hs'
    have:=a9P j
    rw[List.mem_range'_1]at hj
    exact⟨by omega,a8F j (by omega)⟩
 exact⟨aCz h1 fun h=>hs t (h3 h),by omega,by omega,(key l ih (sc++ns) _ m' h5 hm hsn).1⟩
theorem aCy (w:Str) (hw:∀ j,vdot j≠w):∀ (x:X) (sc:List Str) (m m':Nat),x.good sc m m'→(∀ s∈sc,s≠w)→x.no w:=X.indA fun k t ns l ih sc m m' h hs=>by
 obtain⟨h1,h2,h3,h4,h5⟩:=h
 have key:∀ (l:List X),(∀ x∈l,∀ sc m m',x.good sc m m'→(∀ s∈sc,s≠w)→x.no w)→∀ sc m m',X.goods l sc m m'→(∀ s∈sc,s≠w)→X.nos w l:=by
  intro l
  induction l with
  | nil=>intro _ sc m m' h _;trivial
  | cons x l ihl=>
    intro hx sc m m' h hs
    obtain⟨m1,g1,g2⟩:=h
    exact⟨hx x (by simp) sc m m1 g1 hs,ihl (fun y hy=>hx y (by simp[hy])) sc m1 m' g2 hs⟩
 rw[X.no]
 refine⟨fun h=>hs t (h3 h),key l ih (sc++ns) _ m' h5 fun s hs'=> ?_⟩
 rcases List.mem_append.1 hs' with hs'|hs'
 · exact hs s hs'
 · rw[h4,vds,List.mem_map]at hs'
   obtain⟨j,hj,rfl⟩:=hs'
   exact hw j
end Go.Lite
/-
  A term, its arguments by name: a run of it beside a run of the term; what stands for what.
-/
namespace Go.Lite.Nor
open Go.Lite
def aAx (t:Str):Prop:=∃ j,t=pct j
mutual
def cl:X→Prop
 | .mk k t _ l=>(k=5→¬aAx t)∧(k=10→t=kY→l.length=2)∧cls l
def cls:List X→Prop
 | []=>True
 | x::l=>cl x∧cls l
end
def RT (e e':X):Prop:=∃ c,(e.nrm c).1=e'
def RTs:List X→List X→Prop
 | [],[]=>True
 | x::l,y::m=>RT x y∧RTs l m
 | _,_=>False
theorem RTs.len:∀ {l m:List X},RTs l m→m.length=l.length
 | [],[],_=>rfl
 | i::l,j::m,h=>by simp[RTs.len h.2]
 | [],_::_,h=>h.elim
 | _::_,[],h=>h.elim
theorem RTs.get:∀ {l m:List X}{i:Nat}{x:X},RTs l m→l[i]? = some x→∃ y,m[i]? = some y∧RT x y
 | [],[],i,x,_,h=>by simp at h
 | a::l,b::m,0,x,h,hx=>by
   simp only[List.getElem?_cons_zero,Option.some.injEq]at hx
   subst hx
   exact⟨b,rfl,h.1⟩
 | a::l,b::m,i+1,x,h,hx=>by
   simp only[List.getElem?_cons_succ]at hx ⊢
   exact RTs.get h.2 hx
 | [],_::_,_,_,h,_=>h.elim
 | _::_,[],_,_,h,_=>h.elim
theorem a1D:∀ (l:List X) (m i c:Nat),i+l.length≤m→(X.nrms l m i c).2.1=[]∧RTs l (X.nrms l m i c).1
 | [],m,i,c,_=>⟨rfl,trivial⟩
 | x::l,m,i,c,h=>by
   simp only[List.length_cons]at h
   have hc:¬(m≤i∧(x.nrm c).1.atom=false):=by omega
   obtain⟨h1,h2⟩:=a1D l m (i+1) (x.nrm c).2 (by omega)
   rw[X.nrms,if_neg hc]
   exact⟨h1,⟨c,rfl⟩,h2⟩
theorem a9z {k:Int}{t:Str}{ns:List Str}{a:List X}{c:Nat}(h:must k t=none):∃ a',((X.mk k t ns a).nrm c).1= .mk k t ns a'∧RTs a a':=by
 rw[X.nrm,h]
 simp only[Option.getD_none]
 obtain⟨h1,h2⟩:=a1D a a.length 0 c (by omega)
 rw[h1]
 exact⟨_,rfl,h2⟩
/-! ### What stands for what -/
def EnvN (r:List Nat) (env env':Env):Prop:=∀ t,¬aAx t→(∀ p,env.find? (fun p=>p.1==t)=some p→∃ p',env'.find? (fun p=>p.1==t)=some p'∧r[p.2]? = some p'.2)∧(env.find? (fun p=>p.1==t)=none→env'.find? (fun p=>p.1==t)=none)
def LisN (r:List Nat):List Nat→List Nat→Prop
 | [],[]=>True
 | i::l,j::m=>r[i]? = some j∧LisN r l m
 | _,_=>False
def ValN (r:List Nat):V→V→Prop
 | .atom k t,v=>v= .atom k t
 | .pair a b,v=>∃ a' b',v= .pair a' b'∧r[a]? = some a'∧r[b]? = some b'
 | .fn (.mk k t ns a) env g,v=>∃ a' env' g',v= .fn (.mk k t ns a') env' g'∧RTs a a'∧cls a∧EnvN r env env'∧LisN r g g'
def CellN (r:List Nat):C→C→Prop
 | .wait e env,c=>∃ e' env',c= .wait e' env'∧RT e e'∧cl e∧EnvN r env env'
 | .busy e env,c=>∃ e' env',c= .busy e' env'∧RT e e'∧cl e∧EnvN r env env'
 | .done v,c=>∃ v',c= .done v'∧ValN r v v'
structure StN (M:Nat) (cs:List C) (r:List Nat) (s s':S):Prop where
 len:r.length=s.cells.length
 nodup:r.Nodup
 low:∀ j∈r,j<s'.cells.length
 cells:∀ (i j:Nat) (c:C),r[i]? = some j→s.cells[i]? = some c→∃ c',s'.cells[j]? = some c'∧CellN r c c'
 big:M≤s'.cells.length
 kept:∀ j,j<M→j∉r→s'.cells[j]? = cs[j]?
def NF {α:Type}:O α→Prop
 | .val _ _=>False
 | .stop k _ _=>k=6
def OutN (M:Nat) (cs:List C) (r:List Nat) {α:Type}(A:List Nat→α→α→Prop):O α→O α→Prop
 | .val v s,o=>∃ x v' s',o= .val v' s'∧(∀ j∈x,M≤j)∧A (r++x) v v'∧StN M cs (r++x) s s'
 | .stop k t s,o=>∃ s',o= .stop k t s'
theorem kP {r x:List Nat}{i j:Nat}(h:r[i]? = some j):(r++x)[i]? = some j:=by
 rw[List.getElem?_append_left (List.getElem?_eq_some_iff.1 h).1];exact h
theorem EnvN.more {r x:List Nat}{env env':Env}(h:EnvN r env env'):EnvN (r++x) env env':=fun t ht=>⟨fun p hp=>by
 obtain⟨p',h1,h2⟩:=(h t ht).1 p hp
 exact⟨p',h1,kP h2⟩,(h t ht).2⟩
theorem LisN.more {r x:List Nat}:∀ {l m:List Nat},LisN r l m→LisN (r++x) l m
 | [],[],_=>trivial
 | i::l,j::m,h=>⟨kP h.1,LisN.more h.2⟩
 | [],_::_,h=>h.elim
 | _::_,[],h=>h.elim
theorem LisN.len {r:List Nat}:∀ {l m:List Nat},LisN r l m→m.length=l.length
 | [],[],_=>rfl
 | i::l,j::m,h=>by simp[LisN.len h.2]
 | [],_::_,h=>h.elim
 | _::_,[],h=>h.elim
theorem LisN.append {r:List Nat}:∀ {l m l' m':List Nat},LisN r l m→LisN r l' m'→LisN r (l++l') (m++m')
 | [],[],_,_,_,h=>h
 | i::l,j::m,_,_,h,h'=>⟨h.1,LisN.append h.2 h'⟩
 | [],_::_,_,_,h,_=>h.elim
 | _::_,[],_,_,h,_=>h.elim
theorem LisN.take {r:List Nat}:∀ {l m:List Nat}(n:Nat),LisN r l m→LisN r (l.take n) (m.take n)
 | _,_,0,_=>by simp[LisN]
 | [],[],n+1,_=>by simp[LisN]
 | i::l,j::m,n+1,h=>⟨h.1,LisN.take n h.2⟩
 | [],_::_,_+1,h=>h.elim
 | _::_,[],_+1,h=>h.elim
theorem LisN.drop {r:List Nat}:∀ {l m:List Nat}(n:Nat),LisN r l m→LisN r (l.drop n) (m.drop n)
 | _,_,0,h=>by simpa using h
 | [],[],n+1,_=>by simp[LisN]
 | i::l,j::m,n+1,h=>by simpa using LisN.drop n h.2
 | [],_::_,_+1,h=>h.elim
 | _::_,[],_+1,h=>h.elim
theorem ValN.more {r x:List Nat}{v v':V}(h:ValN r v v'):ValN (r++x) v v':=by
 cases v with
 | atom k t=>exact h
 | pair a b=>obtain⟨a',b',rfl,h1,h2⟩:=h;exact⟨a',b',rfl,kP h1,kP h2⟩
 | fn e env g=>
   obtain⟨k,t,ns,a⟩:=e
   obtain⟨a',env',g',rfl,h0,h1,h2,h3⟩:=h
   exact⟨a',env',g',rfl,h0,h1,h2.more,h3.more⟩
theorem CellN.more {r x:List Nat}{c c':C}(h:CellN r c c'):CellN (r++x) c c':=by
 cases c with
 | wait e env=>obtain⟨e',env',rfl,h0,h1,h2⟩:=h;exact⟨e',env',rfl,h0,h1,h2.more⟩
 | busy e env=>obtain⟨e',env',rfl,h0,h1,h2⟩:=h;exact⟨e',env',rfl,h0,h1,h2.more⟩
 | done v=>obtain⟨v',rfl,h1⟩:=h;exact⟨v',rfl,h1.more⟩
theorem ValN.kind {r:List Nat}{v v':V}(h:ValN r v v'):v'.kind=v.kind∧v'.text=v.text:=by
 cases v with
 | atom k t=>rw[h];exact⟨rfl,rfl⟩
 | pair a b=>obtain⟨a',b',rfl,_⟩:=h;exact⟨rfl,rfl⟩
 | fn e env g=>obtain⟨k,t,ns,a⟩:=e;obtain⟨_,env',g',rfl,_⟩:=h;exact⟨rfl,rfl⟩
theorem StN.app {M:Nat}{cs:List C}{r:List Nat}{s s':S}(h:StN M cs r s s') {q q':List C}(hl:q'.length=q.length)
 (hc:∀ (i:Nat) (c:C),q[i]? = some c→∃ c',q'[i]? = some c'∧CellN (r++List.range' s'.cells.length q.length) c c'):StN M cs (r++List.range' s'.cells.length q.length) (s.more q) (s'.more q') where
 len:=by simp[S.more,h.len]
 nodup:=by
  rw[List.nodup_append]
  refine⟨h.nodup,List.nodup_range',?_⟩
  intro a ha b hb e
  have:=h.low a ha
  rw[List.mem_range'_1]at hb
  omega
 low:=by
  intro j hj
  simp only[S.more,List.length_append,hl]
  rcases List.mem_append.1 hj with hj|hj
  · have:=h.low j hj;omega
  · rw[List.mem_range'_1]at hj;omega
 cells:=by
  intro i j c0 hj hi
  simp only[S.more]at hi ⊢
  by_cases hil:i<s.cells.length
  · rw[List.getElem?_append_left (by rw[h.len];exact hil)]at hj
    rw[List.getElem?_append_left hil]at hi
    obtain⟨c1,h1,h2⟩:=h.cells i j c0 hj hi
    exact⟨c1,by rw[List.getElem?_append_left (List.getElem?_eq_some_iff.1 h1).1];exact h1,h2.more⟩
  · rw[List.getElem?_append_right (by rw[h.len];omega),h.len]at hj
    rw[List.getElem?_append_right (by omega)]at hi
    have hxl:i-s.cells.length<q.length:=(List.getElem?_eq_some_iff.1 hi).1
    rw[List.getElem?_range' hxl]at hj
    simp only[Nat.one_mul,Option.some.injEq]at hj
    subst hj
    obtain⟨c',h1,h2⟩:=hc _ _ hi
    refine⟨c',?_,h2⟩
    rw[List.getElem?_append_right (by omega),Nat.add_sub_cancel_left];exact h1
 big:=by simp only[S.more,List.length_append];have:=h.big;omega
 kept:=by
  intro j hj hn
  simp only[S.more]
  have:=h.big
  rw[List.getElem?_append_left (by omega)]
  exact h.kept j hj fun hr=>hn (List.mem_append_left _ hr)
theorem StN.new {M:Nat}{cs:List C}{r:List Nat}{s s':S}{c c':C}(h:StN M cs r s s') (hc:CellN (r++[s'.cells.length]) c c'):StN M cs (r++[s'.cells.length]) (s.new c).2 (s'.new c').2:=by
 refine h.app (q:=[c]) (q':=[c']) rfl fun i c0 hi=> ?_
 have hi0:i=0:=by
  have:=(List.getElem?_eq_some_iff.1 hi).1
  simp at this;omega
 subst hi0
 simp only[List.getElem?_cons_zero,Option.some.injEq]at hi
 subst hi
 exact⟨c',rfl,hc⟩
theorem StN.set {M:Nat}{cs:List C}{r:List Nat}{i j:Nat}{s s':S}{c c':C}(h:StN M cs r s s') (hj:r[i]? = some j) (hc:CellN r c c'):StN M cs r (s.set i c) (s'.set j c') where
 len:=by simp[S.set,h.len]
 nodup:=h.nodup
 low:=by simpa[S.set]using h.low
 cells:=by
  intro a b c0 hb ha
  simp only[S.set]at ha ⊢
  rw[List.getElem?_set]at ha
  by_cases hai:i=a
  · subst hai
    rw[hj]at hb
    simp only[Option.some.injEq]at hb
    subst hb
    have hjl:j<s'.cells.length:=h.low j (List.mem_of_getElem? hj)
    rw[if_pos rfl]at ha
    split at ha
    · simp only[Option.some.injEq]at ha
      subst ha
      exact⟨c',by simp[hjl],hc⟩
    · cases ha
  · rw[if_neg hai]at ha
    obtain⟨c1,h1,h2⟩:=h.cells a b c0 hb ha
    have hne:j≠b:=by
     rintro rfl
     exact hai ((List.getElem?_inj (List.getElem?_eq_some_iff.1 hj).1 h.nodup).1 (hj.trans hb.symm))
    exact⟨c1,by rw[List.getElem?_set_ne hne];exact h1,h2⟩
 big:=by simpa[S.set]using h.big
 kept:=by
  intro a ha hn
  simp only[S.set]
  have hne:j≠a:=by
   rintro rfl
   exact hn (List.mem_of_getElem? hj)
  rw[List.getElem?_set_ne hne]
  exact h.kept a ha hn
theorem StN.tick {M:Nat}{cs:List C}{r:List Nat}{s s':S}(h:StN M cs r s s'):StN M cs r s.tick s'.tick:=⟨h.len,h.nodup,h.low,h.cells,h.big,h.kept⟩
theorem StN.used {M:Nat}{cs:List C}{r:List Nat}{s s':S}(h:StN M cs r s s'):StN M cs r s.used s'.used:=⟨h.len,h.nodup,h.low,h.cells,h.big,h.kept⟩
theorem EnvN.cons {r:List Nat}{env env':Env}{n:Str}{i j:Nat}(h:EnvN r env env') (hj:r[i]? = some j):EnvN r ((n,i)::env) ((n,j)::env'):=by
 intro t ht
 by_cases hn:(n==t)=true
 · refine⟨fun p hp=> ?_,fun hp=> ?_⟩
   · rw[List.find?_cons,hn]at hp
     simp only[Option.some.injEq]at hp
     subst hp
     exact⟨(n,j),by rw[List.find?_cons,hn],hj⟩
   · rw[List.find?_cons,hn]at hp;cases hp
 · have hn:(n==t)=false:=by simpa using hn
   have e1:((n,i)::env).find? (fun p=>p.1==t)=env.find? (fun p=>p.1==t):=by rw[List.find?_cons,hn]
   have e2:((n,j)::env').find? (fun p=>p.1==t)=env'.find? (fun p=>p.1==t):=by rw[List.find?_cons,hn]
   rw[e1,e2];exact h t ht
theorem EnvN.pct {r:List Nat}{env env':Env}{n:Str}{j:Nat}(h:EnvN r env env') (hn:aAx n):EnvN r env ((n,j)::env'):=by
 intro t ht
 have hn:(n==t)=false:=by
  simp only[beq_eq_false_iff_ne,ne_eq]
  rintro rfl
  exact ht hn
 have e2:((n,j)::env').find? (fun p=>p.1==t)=env'.find? (fun p=>p.1==t):=by rw[List.find?_cons,hn]
 rw[e2];exact h t ht
theorem EnvN.zip {r:List Nat}:∀ {ns:List Str}{g g':List Nat}{env env':Env},EnvN r env env'→LisN r g g'→EnvN r ((ns.zip g).reverse++env) ((ns.zip g').reverse++env')
 | [],g,g',env,env',h,_=>by simpa using h
 | n::ns,[],[],env,env',h,_=>by simpa using h
 | n::ns,i::g,j::g',env,env',h,hl=>by
   simp only[List.zip_cons_cons,List.reverse_cons,List.append_assoc,List.singleton_append]
   exact EnvN.zip (h.cons hl.1) hl.2
 | n::ns,[],_::_,env,env',h,hl=>hl.elim
 | n::ns,_::_,[],env,env',h,hl=>hl.elim
/-! ### Cells that are found or made -/
def Early (r:List Nat) (env env':Env) (s':S):List X→List X→List Nat→Prop
 | [],[],J=>J=[]
 | x::l,x'::l',J=>(x.atom=true∧RT x x'∧Early r env env' s' l l' J)∨(x.atom=false∧∃ j J' n y env2,J=j::J'∧x'=varX n∧(∃ m,env'.find? (fun p=>p.1==n)=some (m,j))∧s'.cells[j]? = some (.wait y env2)∧RT x y∧EnvN r env env2∧Early r env env' s' l l' J')
 | _,_,_=>False
theorem Early.keep {r x:List Nat}{env env':Env}{s s':S}:∀ {l l':List X}{J:List Nat},(∀ j∈J,∀ c,s.cells[j]? = some c→s'.cells[j]? = some c)→Early r env env' s l l' J→Early (r++x) env env' s' l l' J
 | [],[],J,_,h=>h
 | a::l,a'::l',J,hs,h=>by
   rcases h with⟨h1,h2,h3⟩|⟨h1,j,J',n,y,env2,rfl,h3,h4,h5,h6,h7,h8⟩
   · exact .inl ⟨h1,h2,h3.keep hs⟩
   · exact .inr ⟨h1,j,J',n,y,env2,rfl,h3,h4,hs j (by simp) _ h5,h6,h7.more,h8.keep fun j hj=>hs j (by simp[hj])⟩
 | [],_::_,_,_,h=>h.elim
 | _::_,[],_,_,h=>h.elim
end Go.Lite.Nor
/-
  A term, its arguments by name, comes to what the term comes to: eval, force, apply, print.
-/
namespace Go.Lite.Nor
open Go.Lite
theorem yF {M:Nat}{cs:List C}{r:List Nat}{s s':S}{v v':V}(h:StN M cs r s s') (hv:ValN r v v'):OutN M cs r ValN (.val v s) (.val v' s'):=
 ⟨[],v',s',rfl,by simp,by simpa using hv,by simpa using h⟩
theorem kT {M:Nat}{cs:List C}{r:List Nat}{s s':S}{k:Int}{t:Str}{α:Type}{A:List Nat→α→α→Prop}:OutN M cs r A (.stop k t s) (.stop k t s'):=⟨s',rfl⟩
theorem OutN.more {M:Nat}{cs:List C}{r x:List Nat}{α:Type}{A:List Nat→α→α→Prop}{o o':O α}(h:OutN M cs (r++x) A o o') (hx:∀ j∈x,M≤j):OutN M cs r A o o':=by
 cases o with
 | val v s=>
   obtain⟨y,v',s',h1,h2,h3,h4⟩:=h
   rw[List.append_assoc]at h3 h4
   exact⟨x++y,v',s',h1,fun j hj=>(List.mem_append.1 hj).elim (hx j) (h2 j),h3,h4⟩
 | stop k t s=>exact h
def Both (M:Nat) (cs:List C) (r:List Nat) {α:Type}(A:List Nat→α→α→Prop) (o o':O α):Prop:=NF o∨NF o'∨OutN M cs r A o o'
theorem Both.of {M:Nat}{cs:List C}{r:List Nat}{α:Type}{A:List Nat→α→α→Prop}{o o':O α}(h:OutN M cs r A o o'):Both M cs r A o o':= .inr (.inr h)
theorem Both.more {M:Nat}{cs:List C}{r x:List Nat}{α:Type}{A:List Nat→α→α→Prop}{o o':O α}(h:Both M cs (r++x) A o o') (hx:∀ j∈x,M≤j):Both M cs r A o o':=by
 rcases h with h|h|h
 · exact .inl h
 · exact .inr (.inl h)
 · exact .inr (.inr (h.more hx))
theorem vC {M:Nat}{cs:List C}{r:List Nat}{α β:Type}{A:List Nat→α→α→Prop}{B:List Nat→β→β→Prop}{x x':Option (O α)}{k k':α→S→Option (O β)}{o o':O β}
 (hx:∀ p p',x=some p→x'=some p'→Both M cs r A p p')
 (hk:∀ y v v' s s' o o',(∀ j∈y,M≤j)→A (r++y) v v'→StN M cs (r++y) s s'→k v s=some o→k' v' s'=some o'→Both M cs (r++y) B o o')
 (h:(x.bind fun q=>q.bind k)=some o) (h':(x'.bind fun q=>q.bind k')=some o'):Both M cs r B o o':=by
 obtain⟨p,rfl,h⟩:=Option.bind_eq_some_iff.1 h
 obtain⟨p',rfl,h'⟩:=Option.bind_eq_some_iff.1 h'
 rcases hx p p' rfl rfl with hp|hp|hp
 · cases p with
   | val v s=>exact hp.elim
   | stop k2 t s=>
     obtain rfl:=(Option.some.inj h).symm
     exact .inl hp
 · cases p' with
   | val v s=>exact hp.elim
   | stop k2 t s=>
     obtain rfl:=(Option.some.inj h').symm
     exact .inr (.inl hp)
 · cases p with
   | stop a t s=>
     obtain⟨s',rfl⟩:=hp
     obtain rfl:=(Option.some.inj h).symm
     obtain rfl:=(Option.some.inj h').symm
     exact .of ⟨s',rfl⟩
   | val v s=>
     obtain⟨y,v',s',rfl,h1,h2,h3⟩:=hp
     exact(hk y v v' s s' o o' h1 h2 h3 h h').more h1
/-! ### Names that wait -/
/-! ### Runs -/
def SimE (F F' n:Nat):Prop:=∀ (m M:Nat) (cs:List C) (r:List Nat) (e e':X) (env env':Env) (s s':S) (o o':O V),RT e e'→cl e→EnvN r env env'→StN M cs r s s'→evalA F n e env s=some o→evalA F' m e' env' s'=some o'→Both M cs r ValN o o'
def SimF (F F' n:Nat):Prop:=∀ (m M:Nat) (cs:List C) (r:List Nat) (c c':Nat) (s s':S) (o o':O V),r[c]? = some c'→StN M cs r s s'→qP F n c s=some o→qP F' m c' s'=some o'→Both M cs r ValN o o'
def SimA (F F' n:Nat):Prop:=∀ (m M:Nat) (cs:List C) (r:List Nat) (v v':V) (l l':List Nat) (s s':S) (o o':O V),ValN r v v'→LisN r l l'→StN M cs r s s'→applyA F n v l s=some o→applyA F' m v' l' s'=some o'→Both M cs r ValN o o'
theorem RT.none {k:Int}{t:Str}{ns:List Str}{a:List X}{e':X}(h:RT (.mk k t ns a) e') (hm:must k t=none):∃ a',e'= .mk k t ns a'∧RTs a a':=by
 obtain⟨c,rfl⟩:=h
 exact a9z hm
/-! ### Prints -/
end Go.Lite.Nor
/-
  The laws' ground: natural.Eval stands for its Lean function.
-/
namespace Go.Lite
open Go Go.Proofs
noncomputable def own6 (f:FuncId):Option (List AV→Heap→R):=bif Nat.beq f 12 then some rM else own5 f
noncomputable def P6:Prg:=qH Tryz.prog own6 aDy
theorem cm7 {n:Nat}{caps xs:List AV}{H:Heap}:qK (qB P6 n) (.func 7 caps) xs H=qZ P6 n 7 (qI shutV (xs++caps) H):=qJ rfl rfl
theorem cm8 {n:Nat}{caps xs:List AV}{H:Heap}:qK (qB P6 n) (.func 8 caps) xs H=qZ P6 n 8 (qI shutV (xs++caps) H):=qJ rfl rfl
theorem cm9 {n:Nat}{caps xs:List AV}{H:Heap}:qK (qB P6 n) (.func 9 caps) xs H=qZ P6 n 9 (qI shutV (xs++caps) H):=qJ rfl rfl
theorem cm10 {n:Nat}{caps xs:List AV}{H:Heap}:qK (qB P6 n) (.func 10 caps) xs H=qZ P6 n 10 (qI shutV (xs++caps) H):=qJ rfl rfl
theorem cm11 {n:Nat}{caps xs:List AV}{H:Heap}:qK (qB P6 n) (.func 11 caps) xs H=qZ P6 n 11 (qI shutV (xs++caps) H):=qJ rfl rfl
theorem cm12 {n:Nat}{caps xs:List AV}{H:Heap}:qK (qB P6 n) (.func 12 caps) xs H=qB P6 n 12 (xs++caps) H:=rfl
theorem cm13 {n:Nat}{caps xs:List AV}{H:Heap}:qK (qB P6 n) (.func 13 caps) xs H=qZ P6 n 13 (qI shutV (xs++caps) H):=qJ rfl rfl
theorem cm18 {n:Nat}{caps xs:List AV}{H:Heap}:qK (qB P6 n) (.func 18 caps) xs H=qZ P6 n 18 (qI shutV (xs++caps) H):=qJ rfl rfl
theorem cm19 {n:Nat}{caps xs:List AV}{H:Heap}:qK (qB P6 n) (.func 19 caps) xs H=qZ P6 n 19 (qI shutV (xs++caps) H):=qJ rfl rfl
theorem cm20 {n:Nat}{caps xs:List AV}{H:Heap}:qK (qB P6 n) (.func 20 caps) xs H=qZ P6 n 20 (qI shutV (xs++caps) H):=qJ rfl rfl
theorem cm21 {n:Nat}{caps xs:List AV}{H:Heap}:qK (qB P6 n) (.func 21 caps) xs H=pW P6 n 21 (qI kJ (xs++caps) H):=bE rfl rfl
theorem cm22 {n:Nat}{caps xs:List AV}{H:Heap}:qK (qB P6 n) (.func 22 caps) xs H=pW P6 n 22 (qI kJ (xs++caps) H):=bE rfl rfl
theorem cm37 {n:Nat}{caps xs:List AV}{H:Heap}:qK (qB P6 n) (.func 37 caps) xs H=qZ P6 n 37 (qI shutV (xs++caps) H):=qJ rfl rfl
theorem cm40 {n:Nat}{caps xs:List AV}{H:Heap}:qK (qB P6 n) (.func 40 caps) xs H=qZ P6 n 40 (qI shutV (xs++caps) H):=qJ rfl rfl
set_option linter.defProp false in
def CM:=(And.intro (And.intro (And.intro @cm7 (And.intro @cm8 @cm9)) (And.intro (And.intro @cm10 @cm11) (And.intro @cm12 @cm13))) (And.intro (And.intro @cm18 (And.intro @cm19 @cm20)) (And.intro (And.intro @cm21 @cm22) (And.intro @cm37 @cm40))))
theorem p56:PrgLe P5 P6 where
 code:=rfl
 mode:=rfl
 none:=fun f h=>by
  show own6 f=none
  have h:own5 f=none:=h
  unfold own6
  cases hb:Nat.beq f 12 with
  | false=>exact h
  | true=>
    unfold own5 at h
    rw[hb]at h;cases h
 some:=fun f g h=>by
  have h:own5 f=some g:=h
  cases hb:Nat.beq f 12 with
  | false=>exact⟨g,by show own6 f=some g;unfold own6;rw[hb];exact h,fun _ _=>RLe.refl⟩
  | true=>
    unfold own5 at h
    rw[hb]at h
    simp only[cond_true,Option.some.injEq]at h
    refine⟨rM,by show own6 f=some rM;unfold own6;rw[hb];rfl,fun xs H=> ?_⟩
    rw[←h];exact RLe.none
theorem Ret.up {f:FuncId}{xs:List AV}{v:AV}(r:Ret P5 f xs v):Ret P6 f xs v:=Ret.lift p56 r
noncomputable def a18 (A:Nat→R):R:=open Classical in if h:∃ o,Ev fun n=>A n=some o then some h.choose else none
noncomputable def a7Z (v:AV) (z:Int) (H:Heap):R:=a18 fun k=>opened H (yC (runE (qB P5 k) k [v,.lst 0 0 true [],.int .i64 z] H.bare))
theorem a3x {k:Nat}{x:AV}{z:Int}{H:Heap}:wU k [x,.nils,.int .i64 z] H=(shutV x H).bind fun q=>opened q.2 (yC (runE (qB P5 k) k [q.1,.lst 0 0 true [],.int .i64 z] q.2.bare)):=by
 unfold wU
 rw[zI]
 cases shutV x H with
 | none=>rfl
 | some q=>
   obtain⟨v,H1⟩:=q
   simp -implicitDefEqProofs only[zI,kK,↓qA,ZZ,seval,Option.bind_some,List.length_cons,List.length_nil]
theorem a5m:a18 (fun _=>none)=none:=by
 unfold a18
 split
 · rename_i h
   obtain⟨N,hN⟩:=h.choose_spec
   exact absurd (hN N (Nat.le_refl _)) (by simp)
 · rfl
theorem tH {n:Nat}{x:AV}{z:Int}{H:Heap}:qB P6 (n+1) 12 [x,.nils,.int .i64 z] H=(shutV x H).bind fun q=>a7Z q.1 z q.2:=by
 rw[vV (P:=P6) (g:=rM) rfl]
 show a18 (fun n=>wU n [x,.nils,.int .i64 z] H)=_
 rw[show(fun n=>wU n [x,.nils,.int .i64 z] H)=fun n=>(shutV x H).bind fun q=>opened q.2 (yC (runE (qB P5 n) n [q.1,.lst 0 0 true [],.int .i64 z] q.2.bare))from funext fun n=>a3x]
 cases shutV x H with
 | none=>exact a5m
 | some q=>rfl
theorem a5b {e:X}(ht:e.tame) (F:Nat) (z:Int) (hz:z=F) (hF:F≤1099511627776) {m:Nat}{o:O Str}(h:outA m e [] F=some o) (H:Heap):a7Z e.v z H=some (.ret (resV (resO o)),H):=by
 subst hz
 rw[←aDO e ht F hF h H]
 show _=a18 (fun n=>wU n [e.v,.nils,.int .i64 F] H)
 have hs:shutV e.v H=some (e.v,H):=by
  obtain⟨k,t,ns,l⟩:=e
  rw[X.v_mk]
  simp -implicitDefEqProofs only[XS,↓qA,ZZ,seval]
 rw[show(fun n=>wU n [e.v,.nils,.int .i64 F] H)=fun n=>opened H (yC (runE (qB P5 n) n [e.v,.lst 0 0 true [],.int .i64 F] H.bare))from funext fun n=>by rw[a3x,hs];rfl]
 rfl
theorem a7U (o:O Str):resV (resO o)= .tuple [.agg [.int .i64 o.kind,.str o.txt,.int .i64 0],.int .i64 o.st.steps,.int .i64 o.st.uses]:=by
 cases o<;>rfl
def fiveX:X:= .mk 1 [53] [] []
theorem a9R:outA 3 fiveX [] 1=some (.val [53] ⟨[.done (.atom 3 zD)],1,0⟩):=by
 unfold outA
 simp[fiveX,jR,bT,S.tick,xK,O.bind,yU,sayA,xZ,S.new]
theorem known11:Ret P6 7 [] (.bool true):=by
 have ht:fiveX.tame:=by
  rw[fiveX,X.tame]
  refine⟨⟨⟨by simp,by simp⟩,fun _=>⟨5,by decide,?_⟩⟩,by simp,by simp,trivial⟩
  rw[show(5:Int)=((5:Nat):Int)from rfl,vM,zN (by omega)]
 have eV:=a5b ht 1 1 rfl (by omega) a9R
 rw[fiveX,X.v_mk,a7U]at eV
 simp only[O.kind,O.txt,O.st,show((1:Nat):Int)=1 from rfl,show((0:Nat):Int)=0 from rfl,show qE []= .lst 0 0 true []from rfl,show vXs []= .lst 0 0 true []from rfl]at eV
 refine Ret.of rfl (aFm _ _) rfl rfl (fun H=>by simp -implicitDefEqProofs only[↓qA,ZZ,seval]) ((Ev.ge 1).mono fun n hn H=> ?_)
 obtain⟨n,rfl⟩:∃ k,n=k+1:=⟨n-1,by omega⟩
 simp -implicitDefEqProofs only[c7,↓qA,ZZ,seval,CM,tH,eV,Ends,qC]
 exact⟨_,rfl⟩
end Go.Lite
/-
  What laws ask of terms that were made.
-/
namespace Go.Lite
open Go Go.Proofs
structure Made (e:X):Prop where
 wf:e.wf
 tame:e.tame
 no:∀ w,(∀ j,vdot j≠w)→e.no w
theorem aDk {e:X}{m':Nat}(h:e.good [] 0 m') (hm:m'<100):Made e:=
 ⟨aB6 e (a1X e [] 0 m' h),a8g e [] 0 m' h (by omega) (fun s hs=>by cases hs),fun w hw=>aCy w hw e [] 0 m' h fun s hs=>by cases hs⟩
theorem a0m {e:X}(ht:e.tame) (F:Nat) (z:Int) (hz:z=F) (hF:F≤1099511627776) {m:Nat}{o:O Str}(h:outA m e [] F=some o) (H:Heap):a7Z e.v z H=some (.ret (.tuple [.agg [.int .i64 o.kind,.str o.txt,.int .i64 0],.int .i64 o.st.steps,.int .i64 o.st.uses]),H):=by
 rw[a5b ht F z hz hF h,a7U]
end Go.Lite
/-
  A term of the maker's, its arguments by name: it is well formed, small.
-/
namespace Go.Lite
open Go Go.Proofs
end Go.Lite
/-
  A term of the maker's: there is room for it in the reference's machine.
-/
namespace Go.Lite
open Go Go.Proofs
theorem aBC (l:List X) (h:∀ x∈l,x.nn=x.bnd.length):X.nns l=(X.bnds l).length:=by
 induction l with
 | nil=>rfl
 | cons x l ih=>rw[X.nns,X.bnds,List.length_append,h x (by simp),ih fun y hy=>h y (by simp[hy])]
theorem aED:∀ x:X,x.nn=x.bnd.length:=X.indA fun k t ns l ih=>by
 rw[X.nn,X.bnd,List.length_append,aBC l ih]
theorem aDF:∀ e:X,e.right→e.uni:=X.indA fun k t ns l ih hr=>by
 obtain⟨h1,_,h3⟩:=hr
 rw[X.uni]
 refine⟨fun h10 hl=> ?_,(X.unis_iff l).2 fun x hx=>ih x hx ((a2q l).1 h3 x hx)⟩
 subst h10
 have ha:wD t=1:=by
  rcases h1 with⟨h,_⟩|⟨h,_⟩|⟨h,_⟩|⟨h,_⟩|⟨h,_⟩|⟨h,_⟩|⟨h,_⟩|⟨h,_⟩|⟨h,_⟩|⟨_,_,h,_⟩
  all_goals first
   | (exact absurd h (by decide))
   | (rw[hl]at h;exact h.symm)
 refine⟨?_,?_,?_⟩<;>
 · rintro rfl
   exact absurd ha (by decide)
structure Roomy (e:X):Prop where
 wf:e.wf
 tame:e.tame
 room:Room e [(xP,0)]
theorem aBF {e:X}(hw:e.wf) (ht:e.tame) (hr:e.right) (hn:e.nn≤1000):Roomy e:=⟨hw,ht,ht,by simp;omega,aDF e hr⟩
theorem a3g {e:X}(r:Roomy e) (F:Nat) (hF:F≤1099511627776):∃ o:O Str,outA (deep F) e [] F=some o∧(∀ H,a7Z e.v F H=some (.ret (.tuple [.agg [.int .i64 o.kind,.str o.txt,.int .i64 0],.int .i64 o.st.steps,.int .i64 o.st.uses]),H))∧Ret P6 13 [e.v,.lst 0 0 true [],.int .i64 F] (.tuple [.agg [.int .i64 o.kind,.str o.txt,.int .i64 0],.int .i64 o.st.steps,.int .i64 o.st.uses]):=by
 obtain⟨o,ho,_⟩:=bH e r.wf [] F (deep F) (Nat.le_refl _)
 exact⟨o,ho,fun H=>a0m r.tame F F rfl hF ho H,(aEg e r.room F hF [] (fun t h=>by cases h) (by simp) ho).up⟩
end Go.Lite
/-
  A run among other cells, with steps ahead, is the same; a name that no term uses does not count.
-/
namespace Go.Lite
section
variable (w:Str)
def EnvQ (r:List Nat) (env env':Env):Prop:=∀ t,t≠w→(∀ p,env.find? (fun p=>p.1==t)=some p→∃ p',env'.find? (fun p=>p.1==t)=some p'∧r[p.2]? = some p'.2)∧(env.find? (fun p=>p.1==t)=none→env'.find? (fun p=>p.1==t)=none)
def LisQ (r:List Nat):List Nat→List Nat→Prop
 | [],[]=>True
 | i::l,j::m=>r[i]? = some j∧LisQ r l m
 | _,_=>False
def ValQ (r:List Nat):V→V→Prop
 | .atom k t,v=>v= .atom k t
 | .pair a b,v=>∃ a' b',v= .pair a' b'∧r[a]? = some a'∧r[b]? = some b'
 | .fn (.mk k t ns a) env g,v=>∃ env' g',v= .fn (.mk k t ns a) env' g'∧X.nos w a∧EnvQ w r env env'∧LisQ r g g'
def CellQ (r:List Nat):C→C→Prop
 | .wait e env,c=>∃ env',c= .wait e env'∧e.no w∧EnvQ w r env env'
 | .busy e env,c=>∃ env',c= .busy e env'∧e.no w∧EnvQ w r env env'
 | .done v,c=>∃ v',c= .done v'∧ValQ w r v v'
structure StQ (r:List Nat) (d u:Nat) (s s':S):Prop where
 len:r.length=s.cells.length
 nodup:r.Nodup
 low:∀ j∈r,j<s'.cells.length
 cells:∀ (i j:Nat) (c:C),r[i]? = some j→s.cells[i]? = some c→∃ c',s'.cells[j]? = some c'∧CellQ w r c c'
 steps:s'.steps=s.steps+d
 uses:s'.uses=s.uses+u
def OutQ (M:Nat) (r:List Nat) (d u:Nat) {α:Type}(A:List Nat→α→α→Prop):O α→O α→Prop
 | .val v s,o=>∃ x v' s',o= .val v' s'∧(∀ j∈x,M≤j)∧A (r++x) v v'∧StQ w (r++x) d u s s'∧M≤s'.cells.length
 | .stop k t s,o=>∃ s',o= .stop k t s'∧s'.steps=s.steps+d∧s'.uses=s.uses+u
end
variable {w:Str}
theorem kP {r x:List Nat}{i j:Nat}(h:r[i]? = some j):(r++x)[i]? = some j:=by
 rw[List.getElem?_append_left (List.getElem?_eq_some_iff.1 h).1];exact h
theorem EnvQ.more {r x:List Nat}{env env':Env}(h:EnvQ w r env env'):EnvQ w (r++x) env env':=fun t ht=>⟨fun p hp=>by
 obtain⟨p',h1,h2⟩:=(h t ht).1 p hp
 exact⟨p',h1,kP h2⟩,(h t ht).2⟩
theorem LisQ.more {r x:List Nat}:∀ {l m:List Nat},LisQ r l m→LisQ (r++x) l m
 | [],[],_=>trivial
 | i::l,j::m,h=>⟨kP h.1,LisQ.more h.2⟩
 | [],_::_,h=>h.elim
 | _::_,[],h=>h.elim
theorem LisQ.len {r:List Nat}:∀ {l m:List Nat},LisQ r l m→m.length=l.length
 | [],[],_=>rfl
 | i::l,j::m,h=>by simp[LisQ.len h.2]
 | [],_::_,h=>h.elim
 | _::_,[],h=>h.elim
theorem LisQ.append {r:List Nat}:∀ {l m l' m':List Nat},LisQ r l m→LisQ r l' m'→LisQ r (l++l') (m++m')
 | [],[],_,_,_,h=>h
 | i::l,j::m,_,_,h,h'=>⟨h.1,LisQ.append h.2 h'⟩
 | [],_::_,_,_,h,_=>h.elim
 | _::_,[],_,_,h,_=>h.elim
theorem LisQ.take {r:List Nat}:∀ {l m:List Nat}(n:Nat),LisQ r l m→LisQ r (l.take n) (m.take n)
 | _,_,0,_=>by simp[LisQ]
 | [],[],n+1,_=>by simp[LisQ]
 | i::l,j::m,n+1,h=>⟨h.1,LisQ.take n h.2⟩
 | [],_::_,_+1,h=>h.elim
 | _::_,[],_+1,h=>h.elim
theorem LisQ.drop {r:List Nat}:∀ {l m:List Nat}(n:Nat),LisQ r l m→LisQ r (l.drop n) (m.drop n)
 | _,_,0,h=>by simpa using h
 | [],[],n+1,_=>by simp[LisQ]
 | i::l,j::m,n+1,h=>by simpa using LisQ.drop n h.2
 | [],_::_,_+1,h=>h.elim
 | _::_,[],_+1,h=>h.elim
theorem ValQ.more {r x:List Nat}{v v':V}(h:ValQ w r v v'):ValQ w (r++x) v v':=by
 cases v with
 | atom k t=>exact h
 | pair a b=>obtain⟨a',b',rfl,h1,h2⟩:=h;exact⟨a',b',rfl,kP h1,kP h2⟩
 | fn e env g=>
   obtain⟨k,t,ns,a⟩:=e
   obtain⟨env',g',rfl,h1,h2,h3⟩:=h
   exact⟨env',g',rfl,h1,h2.more,h3.more⟩
theorem CellQ.more {r x:List Nat}{c c':C}(h:CellQ w r c c'):CellQ w (r++x) c c':=by
 cases c with
 | wait e env=>obtain⟨env',rfl,h1,h2⟩:=h;exact⟨env',rfl,h1,h2.more⟩
 | busy e env=>obtain⟨env',rfl,h1,h2⟩:=h;exact⟨env',rfl,h1,h2.more⟩
 | done v=>obtain⟨v',rfl,h1⟩:=h;exact⟨v',rfl,h1.more⟩
theorem ValQ.kind {r:List Nat}{v v':V}(h:ValQ w r v v'):v'.kind=v.kind∧v'.text=v.text:=by
 cases v with
 | atom k t=>rw[h];exact⟨rfl,rfl⟩
 | pair a b=>obtain⟨a',b',rfl,_⟩:=h;exact⟨rfl,rfl⟩
 | fn e env g=>obtain⟨k,t,ns,a⟩:=e;obtain⟨env',g',rfl,_⟩:=h;exact⟨rfl,rfl⟩
theorem StQ.new {r:List Nat}{d u:Nat}{s s':S}{c c':C}(h:StQ w r d u s s') (hc:CellQ w (r++[s'.cells.length]) c c'):StQ w (r++[s'.cells.length]) d u (s.new c).2 (s'.new c').2 where
 len:=by simp[S.new,h.len]
 nodup:=by
  rw[List.nodup_append]
  refine⟨h.nodup,by simp,?_⟩
  intro a ha b hb e
  simp only[List.mem_singleton]at hb
  have:=h.low a ha
  omega
 low:=by
  intro j hj
  simp only[S.new,List.length_append,List.length_singleton]
  rcases List.mem_append.1 hj with hj|hj
  · have:=h.low j hj;omega
  · simp only[List.mem_singleton]at hj;omega
 cells:=by
  intro i j c0 hj hi
  simp only[S.new]at hi ⊢
  by_cases hl:i<s.cells.length
  · rw[List.getElem?_append_left (by rw[h.len];exact hl)]at hj
    rw[List.getElem?_append_left hl]at hi
    obtain⟨c1,h1,h2⟩:=h.cells i j c0 hj hi
    exact⟨c1,by rw[List.getElem?_append_left (List.getElem?_eq_some_iff.1 h1).1];exact h1,h2.more⟩
  · have hi':i=s.cells.length:=by
     have:=(List.getElem?_eq_some_iff.1 hi).1
     simp at this;omega
    subst hi'
    rw[←h.len]at hj
    simp at hj hi
    subst hj hi
    exact⟨c',by simp,hc⟩
 steps:=h.steps
 uses:=h.uses
theorem StQ.set {r:List Nat}{d u i j:Nat}{s s':S}{c c':C}(h:StQ w r d u s s') (hj:r[i]? = some j) (hc:CellQ w r c c'):StQ w r d u (s.set i c) (s'.set j c') where
 len:=by simp[S.set,h.len]
 nodup:=h.nodup
 low:=by simpa[S.set]using h.low
 cells:=by
  intro a b c0 hb ha
  simp only[S.set]at ha ⊢
  rw[List.getElem?_set]at ha
  by_cases hai:i=a
  · subst hai
    rw[hj]at hb
    simp only[Option.some.injEq]at hb
    subst hb
    have hjl:j<s'.cells.length:=h.low j (List.mem_of_getElem? hj)
    rw[if_pos rfl]at ha
    split at ha
    · simp only[Option.some.injEq]at ha
      subst ha
      exact⟨c',by simp[hjl],hc⟩
    · cases ha
  · rw[if_neg hai]at ha
    obtain⟨c1,h1,h2⟩:=h.cells a b c0 hb ha
    have hne:j≠b:=by
     rintro rfl
     exact hai ((List.getElem?_inj (List.getElem?_eq_some_iff.1 hj).1 h.nodup).1 (hj.trans hb.symm))
    exact⟨c1,by rw[List.getElem?_set_ne hne];exact h1,h2⟩
 steps:=h.steps
 uses:=h.uses
theorem StQ.tick {r:List Nat}{d u:Nat}{s s':S}(h:StQ w r d u s s'):StQ w r d u s.tick s'.tick:=⟨h.len,h.nodup,h.low,h.cells,by have:=h.steps;simp only[S.tick];omega,h.uses⟩
theorem StQ.used {r:List Nat}{d u:Nat}{s s':S}(h:StQ w r d u s s'):StQ w r d u s.used s'.used:=⟨h.len,h.nodup,h.low,h.cells,h.steps,by have:=h.uses;simp only[S.used];omega⟩
def NewQ (w:Str) (M:Nat) (r:List Nat) (d u:Nat) (q q':Nat×S):Prop:=∃ x,(∀ j∈x,M≤j)∧(r++x)[q.1]? = some q'.1∧StQ w (r++x) d u q.2 q'.2∧M≤q'.2.cells.length
theorem a9S {M:Nat}{r:List Nat}{d u:Nat}{s s':S}{c c':C}(h:StQ w r d u s s') (hM:M≤s'.cells.length) (hc:CellQ w r c c'):NewQ w M r d u (s.new c) (s'.new c'):=by
 refine⟨[s'.cells.length],by simpa using hM,?_,h.new hc.more,by simp[S.new];omega⟩
 show(r++[s'.cells.length])[s.cells.length]? = some s'.cells.length
 rw[←h.len];simp
theorem aBa {M:Nat}{r:List Nat}{d u:Nat}{s s':S}{env env':Env}{t:Str}(h:StQ w r d u s s') (hM:M≤s'.cells.length) (he:EnvQ w r env env') (ht:t≠w):NewQ w M r d u (kI env t s) (kI env' t s'):=by
 obtain⟨h1,h2⟩:=he t ht
 unfold kI
 cases hf:env.find? (fun p=>p.1==t)with
 | some p=>
   obtain⟨p',e1,e2⟩:=h1 p hf
   rw[e1]
   exact⟨[],by simp,by simpa using e2,by simpa using h,hM⟩
 | none=>
   rw[h2 hf]
   exact a9S h hM ⟨_,rfl,rfl⟩
theorem aBB {M:Nat}{r:List Nat}{d u:Nat}{s s':S}{env env':Env}{e:X}(h:StQ w r d u s s') (hM:M≤s'.cells.length) (he:EnvQ w r env env') (hn:e.no w):NewQ w M r d u (argA e env s) (argA e env' s'):=by
 obtain⟨k,t,ns,l⟩:=e
 unfold argA
 simp only[]
 by_cases h5:k=5
 · rw[if_pos h5,if_pos h5];exact aBa h hM he (hn.1 h5)
 rw[if_neg h5,if_neg h5]
 by_cases h14:1≤k∧k≤4
 · rw[if_pos h14,if_pos h14]
   refine a9S h hM ⟨_,rfl,?_⟩
   unfold xK
   repeat' split
   all_goals rfl
 · rw[if_neg h14,if_neg h14]
   exact a9S h hM ⟨_,rfl,hn,he⟩
theorem aAo {M:Nat}{d u:Nat}{env env':Env}:∀ {l:List X}{r:List Nat}{s s':S},StQ w r d u s s'→M≤s'.cells.length→EnvQ w r env env'→X.nos w l→
 ∃ x,(∀ j∈x,M≤j)∧LisQ (r++x) (xN env l s).1 (xN env' l s').1∧StQ w (r++x) d u (xN env l s).2 (xN env' l s').2∧M≤(xN env' l s').2.cells.length
 | [],r,s,s',h,hM,_,_=>⟨[],by simp,trivial,by simpa[xN]using h,hM⟩
 | e :: l, r, s, s', h, hM, he, hn => by
   obtain⟨x,x1,x2,x3,x4⟩:=aBB h hM he hn.1
   obtain⟨y,y1,y2,y3,y4⟩:=aAo (l:=l) x3 x4 he.more hn.2
   refine⟨x++y,fun j hj=>(List.mem_append.1 hj).elim (x1 j) (y1 j),?_,?_,y4⟩
   · rw[xN,xN,←List.append_assoc]
     exact⟨kP x2,y2⟩
   · rw[xN,xN,←List.append_assoc];exact y3
theorem EnvQ.cons {r:List Nat}{env env':Env}{n:Str}{i j:Nat}(h:EnvQ w r env env') (hj:r[i]? = some j):EnvQ w r ((n,i)::env) ((n,j)::env'):=by
 intro t ht
 by_cases hn:(n==t)=true
 · refine⟨fun p hp=> ?_,fun hp=> ?_⟩
   · rw[List.find?_cons,hn]at hp
     simp only[Option.some.injEq]at hp
     subst hp
     exact⟨(n,j),by rw[List.find?_cons,hn],hj⟩
   · rw[List.find?_cons,hn]at hp;cases hp
 · have hn:(n==t)=false:=by simpa using hn
   have e1:((n,i)::env).find? (fun p=>p.1==t)=env.find? (fun p=>p.1==t):=by rw[List.find?_cons,hn]
   have e2:((n,j)::env').find? (fun p=>p.1==t)=env'.find? (fun p=>p.1==t):=by rw[List.find?_cons,hn]
   rw[e1,e2];exact h t ht
theorem EnvQ.zip {r:List Nat}:∀ {ns:List Str}{g g':List Nat}{env env':Env},EnvQ w r env env'→LisQ r g g'→EnvQ w r ((ns.zip g).reverse++env) ((ns.zip g').reverse++env')
 | [],g,g',env,env',h,_=>by simpa using h
 | n::ns,[],[],env,env',h,_=>by simpa using h
 | n::ns,i::g,j::g',env,env',h,hl=>by
   simp only[List.zip_cons_cons,List.reverse_cons,List.append_assoc,List.singleton_append]
   exact EnvQ.zip (h.cons hl.1) hl.2
 | n::ns,[],_::_,env,env',h,hl=>hl.elim
 | n::ns,_::_,[],env,env',h,hl=>hl.elim
end Go.Lite
/-
  A run among other cells is the same: eval, force, apply, print.
-/
namespace Go.Lite
variable {w:Str}
theorem a5P:∀ {ns:List Str}{i j:Nat}{r:List Nat}{env env':Env},EnvQ w r env env'→(∀ m,m<ns.length→r[i+m]? = some (j+m))→EnvQ w r (x9 ns i env) (x9 ns j env')
 | [],i,j,r,env,env',h,_=>h
 | n::ns,i,j,r,env,env',h,hr=>by
   rw[x9,x9]
   refine a5P (h.cons (by have:=hr 0 (by simp);simpa using this)) fun m hm=> ?_
   have:=hr (m+1) (by simp;omega)
   rw[show i+1+m=i+(m+1)by omega,show j+1+m=j+(m+1)by omega];exact this
theorem StQ.more {r:List Nat}{d u:Nat}{s s':S}(h:StQ w r d u s s') {α:Type}{l:List α}{f g:α→C}(hc:∀ x∈l,CellQ w (r++List.range' s'.cells.length l.length) (f x) (g x)):
 StQ w (r++List.range' s'.cells.length l.length) d u (s.more (l.map f)) (s'.more (l.map g)) where
 len:=by simp[S.more,h.len]
 nodup:=by
  rw[List.nodup_append]
  refine⟨h.nodup,List.nodup_range',?_⟩
  intro a ha b hb e
  have:=h.low a ha
  rw[List.mem_range'_1]at hb
  omega
 low:=by
  intro j hj
  simp only[S.more,List.length_append,List.length_map]
  rcases List.mem_append.1 hj with hj|hj
  · have:=h.low j hj;omega
  · rw[List.mem_range'_1]at hj;omega
 cells:=by
  intro i j c0 hj hi
  simp only[S.more]at hi ⊢
  by_cases hl:i<s.cells.length
  · rw[List.getElem?_append_left (by rw[h.len];exact hl)]at hj
    rw[List.getElem?_append_left hl]at hi
    obtain⟨c1,h1,h2⟩:=h.cells i j c0 hj hi
    exact⟨c1,by rw[List.getElem?_append_left (List.getElem?_eq_some_iff.1 h1).1];exact h1,h2.more⟩
  · rw[List.getElem?_append_right (by rw[h.len];omega),h.len]at hj
    rw[List.getElem?_append_right (by omega),List.getElem?_map]at hi
    obtain⟨x,hx,rfl⟩:=Option.map_eq_some_iff.1 hi
    have hxl:i-s.cells.length<l.length:=(List.getElem?_eq_some_iff.1 hx).1
    rw[List.getElem?_range' hxl]at hj
    simp only[Nat.one_mul,Option.some.injEq]at hj
    subst hj
    refine⟨g x,?_,hc x (List.mem_of_getElem? hx)⟩
    rw[List.getElem?_append_right (by omega),Nat.add_sub_cancel_left,List.getElem?_map,hx];rfl
 steps:=h.steps
 uses:=h.uses
def SimE (w:Str) (F d u n:Nat):Prop:=∀ (M:Nat) (r:List Nat) (e:X) (env env':Env) (s s':S) (o:O V),e.no w→EnvQ w r env env'→StQ w r d u s s'→M≤s'.cells.length→evalA F n e env s=some o→∃ o',evalA (F+d) n e env' s'=some o'∧OutQ w M r d u (ValQ w) o o'
def SimF (w:Str) (F d u n:Nat):Prop:=∀ (M:Nat) (r:List Nat) (c c':Nat) (s s':S) (o:O V),r[c]? = some c'→StQ w r d u s s'→M≤s'.cells.length→qP F n c s=some o→∃ o',qP (F+d) n c' s'=some o'∧OutQ w M r d u (ValQ w) o o'
def SimA (w:Str) (F d u n:Nat):Prop:=∀ (M:Nat) (r:List Nat) (v v':V) (l l':List Nat) (s s':S) (o:O V),ValQ w r v v'→LisQ r l l'→StQ w r d u s s'→M≤s'.cells.length→applyA F n v l s=some o→∃ o',applyA (F+d) n v' l' s'=some o'∧OutQ w M r d u (ValQ w) o o'
theorem OutQ.more {M:Nat}{r x:List Nat}{d u:Nat}{α:Type}{A:List Nat→α→α→Prop}{o o':O α}(h:OutQ w M (r++x) d u A o o') (hx:∀ j∈x,M≤j):OutQ w M r d u A o o':=by
 cases o with
 | val v s=>
   obtain⟨y,v',s',h1,h2,h3,h4,h5⟩:=h
   rw[List.append_assoc]at h3 h4
   exact⟨x++y,v',s',h1,fun j hj=>(List.mem_append.1 hj).elim (hx j) (h2 j),h3,h4,h5⟩
 | stop k t s=>exact h
theorem yF {M:Nat}{r:List Nat}{d u:Nat}{s s':S}{v v':V}(h:StQ w r d u s s') (hM:M≤s'.cells.length) (hv:ValQ w r v v'):OutQ w M r d u (ValQ w) (.val v s) (.val v' s'):=
 ⟨[],v',s',rfl,by simp,by simpa using hv,by simpa using h,hM⟩
theorem kT {M:Nat}{r:List Nat}{d u:Nat}{s s':S}{k:Int}{t:Str}{α:Type}{A:List Nat→α→α→Prop}(h:StQ w r d u s s'):OutQ w M r d u A (.stop k t s) (.stop k t s'):=⟨s',rfl,h.steps,h.uses⟩
theorem vC {M:Nat}{r:List Nat}{d u:Nat}{α β:Type}{A:List Nat→α→α→Prop}{B:List Nat→β→β→Prop}{x x':Option (O α)}{k k':α→S→Option (O β)}{o:O β}
 (hx:∀ p,x=some p→∃ p',x'=some p'∧OutQ w M r d u A p p')
 (hk:∀ y v v' s s' o,(∀ j∈y,M≤j)→A (r++y) v v'→StQ w (r++y) d u s s'→M≤s'.cells.length→k v s=some o→∃ o',k' v' s'=some o'∧OutQ w M (r++y) d u B o o')
 (h:(x.bind fun q=>q.bind k)=some o):∃ o',(x'.bind fun q=>q.bind k')=some o'∧OutQ w M r d u B o o':=by
 obtain⟨p,rfl,h⟩:=Option.bind_eq_some_iff.1 h
 obtain⟨p',rfl,hp⟩:=hx p rfl
 cases p with
 | stop a t s=>
   obtain⟨s',rfl,h1,h2⟩:=hp
   obtain rfl:=(Option.some.inj h).symm
   exact⟨_,rfl,s',rfl,h1,h2⟩
 | val v s=>
   obtain⟨y,v',s',rfl,h1,h2,h3,h4⟩:=hp
   obtain⟨o',e,q⟩:=hk y v v' s s' o h1 h2 h3 h4 h
   exact⟨o',e,q.more h1⟩
theorem aEJ {M:Nat}{r:List Nat}{d u:Nat}{s s':S}{op a b:Str}(h:StQ w r d u s s') (hM:M≤s'.cells.length):OutQ w M r d u (ValQ w) (y8 op a b s) (y8 op a b s'):=by
 unfold y8 numA zC
 simp only[]
 repeat' split
 all_goals first
  | exact yF h hM rfl
  | exact kT h
set_option maxHeartbeats 4000000 in
theorem simA (F d u : Nat) : ∀ n, SimE w F d u n ∧ SimF w F d u n ∧ SimA w F d u n := by
 intro n
 induction n with
 | zero=>exact⟨fun _ _ _ _ _ _ _ _ _ _ _ _ h=>by simp[evalA]at h,fun _ _ _ _ _ _ _ _ _ _ h=>by simp[qP]at h,fun _ _ _ _ _ _ _ _ _ _ _ _ _ h=>by simp[applyA]at h⟩
 | succ n ih =>
   obtain⟨ihE,ihF,ihA⟩:=ih
   refine⟨?_,?_,?_⟩
   · rintro M r ⟨k,t,ns,l⟩ env env' s s' o hno he hs hM h
     rw[jR]at h ⊢
     have ht:=hs.tick
     have hts:=ht.steps
     by_cases hg:s.tick.steps>F
     · rw[if_pos hg]at h
       obtain rfl:=(Option.some.inj h).symm
       rw[if_pos (by omega)]
       exact⟨_,rfl,kT ht⟩
     rw[if_neg hg]at h
     rw[if_neg (by omega)]
     have hMt:M≤s'.tick.cells.length:=hM
     obtain⟨h5',hnos⟩:=hno
     have hn:∀ x∈l,x.no w:=(X.nos_iff w l).1 hnos
     unfold bT at h ⊢
     by_cases h5:k=5
     · rw[if_pos h5]at h ⊢
       obtain⟨x,x1,x2,x3,x4⟩:=aBa (t:=t) ht hMt he (h5' h5)
       obtain⟨o',e,q⟩:=ihF M _ _ _ _ _ o x2 x3 x4 h
       exact⟨o',e,q.more x1⟩
     rw[if_neg h5]at h ⊢
     by_cases h6:k=6
     · rw[if_pos h6]at h ⊢
       obtain rfl:=(Option.some.inj h).symm
       exact⟨_,rfl,yF ht hMt ⟨env',[],rfl,hnos,he,trivial⟩⟩
     rw[if_neg h6]at h ⊢
     by_cases h7:k=7
     · rw[if_pos h7]at h ⊢
       cases l with
       | nil=>simp at h
       | cons f la=>
         refine vC (A:=ValQ w) (fun p hp=>ihE M r f env env' _ _ p (hn f (by simp)) he ht hMt hp) (fun y v v' s1 s1' o y1 hv hs1 hM1 h=> ?_) h
         obtain⟨x,x1,x2,x3,x4⟩:=aAo (l:=la) hs1 hM1 he.more hnos.2
         obtain⟨o',e,q⟩:=ihA M _ v v' _ _ _ _ o hv.more x2 x3 x4 h
         exact⟨o',e,q.more x1⟩
     rw[if_neg h7]at h ⊢
     by_cases h8:k=8
     · rw[if_pos h8]at h ⊢
       rcases l with _|⟨c,_|⟨a,_|⟨b,_|⟨d',l⟩⟩⟩⟩
       · simp at h
       · simp at h
       · simp at h
       · refine vC (A:=ValQ w) (fun p hp=>ihE M r c env env' _ _ p (hn c (by simp)) he ht hMt hp) (fun y v v' s1 s1' o y1 hv hs1 hM1 h=> ?_) h
         have hk:=hv.kind
         have hf:v'.isFalse=v.isFalse:=by simp only[V.isFalse,hk.1,hk.2]
         rw[hf]
         refine ihE M _ _ env env' s1 s1' o ?_ he.more hs1 hM1 h
         by_cases hv2:v.isFalse=true
         · rw[if_pos hv2];exact hn b (by simp)
         · rw[if_neg hv2];exact hn a (by simp)
       · simp at h
     rw[if_neg h8]at h ⊢
     by_cases h9:k=9
     · rw [if_pos h9] at h ⊢
       cases hb:l[ns.length]? with
       | none=>rw[hb]at h;simp at h
       | some b=>
         rw[hb]at h
         simp only[]at h ⊢
         have hlen:(l.take ns.length).length=ns.length:=by
          have:=(List.getElem?_eq_some_iff.1 hb).1
          rw[List.length_take];omega
         have henv:EnvQ w (r++List.range' s'.tick.cells.length (l.take ns.length).length) (x9 ns s.tick.cells.length env) (x9 ns s'.tick.cells.length env'):=by
          refine a5P he.more fun m hm=> ?_
          rw[List.getElem?_append_right (by rw[ht.len];omega),ht.len,Nat.add_sub_cancel_left,List.getElem?_range' (by rw[hlen];exact hm),Nat.one_mul]
         have hst:=ht.more (l:=l.take ns.length) (f:=fun e=>C.wait e (x9 ns s.tick.cells.length env)) (g:=fun e=>C.wait e (x9 ns s'.tick.cells.length env')) (fun x hx=>⟨_,rfl,hn x (List.mem_of_mem_take hx),henv⟩)
         obtain⟨o',e,q⟩:=ihE M _ b _ _ _ _ o (hn b (List.mem_of_getElem? hb)) henv hst (by simp[S.more];exact Nat.le_trans hMt (Nat.le_add_right _ _)) h
         refine⟨o',e,q.more fun j hj=> ?_⟩
         rw[List.mem_range'_1]at hj
         omega
     rw[if_neg h9]at h ⊢
     by_cases h10:k=10
     · rw [if_pos h10] at h ⊢
       rcases l with _|⟨a,_|⟨b,_|⟨c,l⟩⟩⟩
       · simp at h
       · refine vC (A:=ValQ w) (fun p hp=>ihE M r a env env' _ _ p (hn a (by simp)) he ht hMt hp) (fun y v v' s1 s1' o y1 hv hs1 hM1 h=> ?_) h
         have hk:=hv.kind
         unfold a0q at h ⊢
         by_cases hc:t=carT∨t=cdrT
         · rw[if_pos hc]at h ⊢
           cases v with
           | pair p q=>
             obtain⟨p',q',rfl,hp,hq⟩:=hv
             refine ihF M _ _ _ _ _ o ?_ hs1 hM1 h
             by_cases hcar:t=carT
             · rw[if_pos hcar,if_pos hcar];exact hp
             · rw[if_neg hcar,if_neg hcar];exact hq
           | atom k' t'=>
             rw[show v'= .atom k' t' from hv]
             obtain rfl:=(Option.some.inj h).symm
             exact⟨_,rfl,kT hs1⟩
           | fn e env g=>
             obtain⟨k',t',ns',a'⟩:=e
             obtain⟨_,_,rfl,_⟩:=hv
             obtain rfl:=(Option.some.inj h).symm
             exact⟨_,rfl,kT hs1⟩
         rw[if_neg hc]at h ⊢
         have hf:v'.isFalse=v.isFalse:=by simp only[V.isFalse,hk.1,hk.2]
         rw[hk.1,hk.2,hf]
         repeat' split at h
         all_goals
          obtain rfl:=(Option.some.inj h).symm
          simp only[*,if_true,if_false]
          first
           | exact⟨_,rfl,yF hs1 hM1 rfl⟩
           | exact⟨_,rfl,kT hs1⟩
           | (simp;exact yF hs1 hM1 rfl)
           | (simp;exact kT hs1)
       · simp only[sJ]at h ⊢
         by_cases hc:t=kY
         · rw[if_pos hc]at h ⊢
           obtain rfl:=(Option.some.inj h).symm
           obtain⟨x,x1,x2,x3,x4⟩:=aBB (e:=a) ht hMt he (hn a (by simp))
           obtain⟨y,y1,y2,y3,y4⟩:=aBB (e:=b) x3 x4 he.more (hn b (by simp))
           refine⟨_,rfl,x++y,_,_,rfl,fun j hj=>(List.mem_append.1 hj).elim (x1 j) (y1 j),?_,?_,y4⟩
           · rw[←List.append_assoc]
             exact⟨_,_,rfl,kP x2,y2⟩
           · rw[←List.append_assoc];exact y3
         rw[if_neg hc]at h ⊢
         refine vC (A:=ValQ w) (fun p hp=>ihE M r a env env' _ _ p (hn a (by simp)) he ht hMt hp) (fun y v v' s1 s1' o y1 hv hs1 hM1 h=> ?_) h
         have hk:=hv.kind
         by_cases hq:t=seqT
         · rw[if_pos hq]at h ⊢
           exact ihE M _ b env env' s1 s1' o (hn b (by simp)) he.more hs1 hM1 h
         rw[if_neg hq]at h ⊢
         by_cases hq2:t=eqP
         · rw[if_pos hq2]at h ⊢
           refine vC (A:=ValQ w) (fun p hp=>ihE M _ b env env' _ _ p (hn b (by simp)) he.more hs1 hM1 hp) (fun y v2 v2' s2 s2' o y1 hv2 hs2 hM2 h=> ?_) h
           have hk2:=hv2.kind
           obtain rfl:=(Option.some.inj h).symm
           rw[hk.1,hk.2,hk2.1,hk2.2]
           exact⟨_,rfl,yF hs2 hM2 rfl⟩
         rw[if_neg hq2]at h ⊢
         rw[hk.1,hk.2]
         by_cases hn1:v.kind≠1
         · rw[if_pos hn1]at h ⊢
           obtain rfl:=(Option.some.inj h).symm
           exact⟨_,rfl,kT hs1⟩
         rw[if_neg hn1]at h ⊢
         refine vC (A:=ValQ w) (fun p hp=>ihE M _ b env env' _ _ p (hn b (by simp)) he.more hs1 hM1 hp) (fun y v2 v2' s2 s2' o y1 hv2 hs2 hM2 h=> ?_) h
         have hk2:=hv2.kind
         rw[hk2.1,hk2.2]
         by_cases hn2:v2.kind≠1
         · rw[if_pos hn2]at h ⊢
           obtain rfl:=(Option.some.inj h).symm
           exact⟨_,rfl,kT hs2⟩
         rw[if_neg hn2]at h ⊢
         obtain rfl:=(Option.some.inj h).symm
         exact⟨_,rfl,aEJ hs2 hM2⟩
       · simp at h
     rw[if_neg h10]at h ⊢
     obtain rfl:=(Option.some.inj h).symm
     refine⟨_,rfl,yF ht hMt ?_⟩
     unfold xK
     repeat' split
     all_goals rfl
   · intro M r c c' s s' o hc hs hM h
     rw[qP]at h
     cases hcc:s.cells[c]? with
     | none=>rw[hcc]at h;simp at h
     | some cl=>
       rw[hcc]at h
       obtain⟨cl',hcc',hq⟩:=hs.cells c c' cl hc hcc
       rw[qP,hcc']
       cases cl with
       | done v=>
         obtain⟨v',rfl,hv⟩:=hq
         obtain rfl:=(Option.some.inj h).symm
         exact⟨_,rfl,yF hs hM hv⟩
       | busy e env=>
         obtain⟨env',rfl,_⟩:=hq
         obtain rfl:=(Option.some.inj h).symm
         exact⟨_,rfl,kT hs⟩
       | wait e env=>
         obtain⟨env',rfl,h1,h2⟩:=hq
         simp only[]at h ⊢
         refine vC (A:=ValQ w) (fun p hp=>ihE M r e env env' _ _ p h1 h2 (hs.set hc (c:= .busy e env) (c':= .busy e env') ⟨env',rfl,h1,h2⟩).used (by simpa[S.set,S.used]using hM) hp) (fun y v v' s1 s1' o y1 hv hs1 hM1 h=> ?_) h
         obtain rfl:=(Option.some.inj h).symm
         exact⟨_,rfl,yF (hs1.set (kP hc) ⟨v',rfl,hv⟩) (by simpa[S.set]using hM1) hv⟩
   · intro M r v v' l l' s s' o hv hl hs hM h
     rw[gI]at h ⊢
     unfold sK at h ⊢
     have hll:=hl.len
     by_cases hn:l=[]
     · rw[if_pos hn]at h
       rw[if_pos (List.eq_nil_of_length_eq_zero (by rw[hll,hn];rfl))]
       obtain rfl:=(Option.some.inj h).symm
       exact⟨_,rfl,yF hs hM hv⟩
     rw[if_neg hn]at h
     rw[if_neg (fun e=>hn (List.eq_nil_of_length_eq_zero (by rw[←hll,e];rfl)))]
     cases v with
     | atom k t=>
       rw[show v'= .atom k t from hv]
       obtain rfl:=(Option.some.inj h).symm
       exact⟨_,rfl,kT hs⟩
     | pair a b=>
       obtain⟨_,_,rfl,_⟩:=hv
       obtain rfl:=(Option.some.inj h).symm
       exact⟨_,rfl,kT hs⟩
     | fn e env g=>
       obtain⟨k,t,ns,a⟩:=e
       obtain⟨env',g',rfl,h1,h2,h3⟩:=hv
       simp only[]at h ⊢
       have hgl:=h3.len
       rw[hll,hgl]
       by_cases hp:l.length<ns.length-g.length
       · rw[if_pos hp]at h ⊢
         obtain rfl:=(Option.some.inj h).symm
         exact⟨_,rfl,yF hs hM ⟨env',_,rfl,h1,h2,h3.append hl⟩⟩
       rw[if_neg hp]at h ⊢
       cases a with
       | nil=>simp at h
       | cons b a'=>
         simp only[]at h ⊢
         refine vC (A:=ValQ w) (fun p hp=>ihE M r b _ _ _ _ p h1.1 (h2.zip (h3.append (hl.take _))) hs hM hp) (fun y v2 v2' s1 s1' o y1 hv2 hs1 hM1 h=> ?_) h
         exact ihA M _ v2 v2' _ _ s1 s1' o hv2 (hl.drop _).more hs1 hM1 h
/-! ### Prints -/
def TxtQ (w:Str):List Nat→Str→Str→Prop:=fun _ a b=>b=a
theorem a7O {M:Nat}{r:List Nat}{d u:Nat}{s s':S}{out t:Str}(h:StQ w r d u s s') (hM:M≤s'.cells.length):OutQ w M r d u (TxtQ w) (sayA out t s) (sayA out t s'):=by
 unfold sayA
 split
 · exact kT h
 · exact⟨[],_,s',rfl,by simp,rfl,by simpa using h,hM⟩
theorem sH {M:Nat}{r:List Nat}{d u:Nat}{s s':S}{out t:Str}{k k':Str→S→Option (O Str)}{o:O Str}(hs:StQ w r d u s s') (hM:M≤s'.cells.length)
 (hk:∀ out o,k out s=some o→∃ o',k' out s'=some o'∧OutQ w M r d u (TxtQ w) o o') (h:(sayA out t s).bind k=some o):∃ o',(sayA out t s').bind k'=some o'∧OutQ w M r d u (TxtQ w) o o':=by
 unfold sayA at h ⊢
 by_cases hc:out.length+t.length>2000
 · rw[if_pos hc]at h ⊢
   obtain rfl:=(Option.some.inj h).symm
   exact⟨_,rfl,kT hs⟩
 · rw[if_neg hc]at h ⊢
   exact hk _ o h
set_option maxHeartbeats 2000000 in
theorem simP (F d u : Nat) : ∀ n,
 (∀ (M:Nat) (r:List Nat) (out:Str) (v v':V) (s s':S) (o:O Str),ValQ w r v v'→StQ w r d u s s'→M≤s'.cells.length→printA F n out v s=some o→∃ o',printA (F+d) n out v' s'=some o'∧OutQ w M r d u (TxtQ w) o o')∧
 (∀ (M:Nat) (r:List Nat) (out:Str) (a b a' b':Nat) (s s':S) (o:O Str),r[a]? = some a'→r[b]? = some b'→StQ w r d u s s'→M≤s'.cells.length→rowA F n out a b s=some o→∃ o',rowA (F+d) n out a' b' s'=some o'∧OutQ w M r d u (TxtQ w) o o'):=by
 intro n
 induction n with
 | zero=>exact⟨fun _ _ _ _ _ _ _ _ _ _ _ h=>by simp[printA]at h,fun _ _ _ _ _ _ _ _ _ _ _ _ _ _ h=>by simp[rowA]at h⟩
 | succ n ih =>
   obtain⟨ihP,ihR⟩:=ih
   refine⟨?_,?_⟩
   · intro M r out v v' s s' o hv hs hM h
     rw[yU]at h ⊢
     cases v with
     | atom k t=>
       rw[show v'= .atom k t from hv]
       obtain rfl:=(Option.some.inj h).symm
       exact⟨_,rfl,a7O hs hM⟩
     | fn e env g=>
       obtain⟨k,t,ns,a⟩:=e
       obtain⟨_,_,rfl,_⟩:=hv
       obtain rfl:=(Option.some.inj h).symm
       exact⟨_,rfl,a7O hs hM⟩
     | pair a b=>
       obtain⟨a',b',rfl,h1,h2⟩:=hv
       exact sH hs hM (fun out o h=>ihR M r out a b a' b' s s' o h1 h2 hs hM h) h
   · intro M r out a b a' b' s s' o ha hb hs hM h
     rw[rowA]at h ⊢
     refine vC (A:=ValQ w) (fun p hp=>(simA F d u n).2.1 M r a a' s s' p ha hs hM hp) (fun y v v' s1 s1' o y1 hv hs1 hM1 h=> ?_) h
     refine vC (A:=TxtQ w) (fun p hp=>ihP M _ out v v' s1 s1' p hv hs1 hM1 hp) (fun y2 out2 out2' s2 s2' o y3 ho hs2 hM2 h=> ?_) h
     have ho:out2'=out2:=ho
     subst ho
     refine vC (A:=ValQ w) (fun p hp=>(simA F d u n).2.1 M _ b b' s2 s2' p (kP (kP hb)) hs2 hM2 hp) (fun y4 v2 v2' s3 s3' o y5 hv2 hs3 hM3 h=> ?_) h
     have hk:=hv2.kind
     have rest:∀ (x x':V),x'.kind=x.kind→ValQ w (((r++y)++y2)++y4) x x'→(if x.kind=3 then some (sayA out2' [41] s3)else(sayA out2' [32,46,32] s3).bind fun out s=>(printA F n out x s).bind fun r=>r.bind fun out s=>some (sayA out [41] s))=some o→
      ∃ o',(if x'.kind=3 then some (sayA out2' [41] s3')else(sayA out2' [32,46,32] s3').bind fun out s=>(printA (F+d) n out x' s).bind fun r=>r.bind fun out s=>some (sayA out [41] s))=some o'∧OutQ w M (((r++y)++y2)++y4) d u (TxtQ w) o o':=by
      intro x x' hkx hvx h
      rw[hkx]
      by_cases h3:x.kind=3
      · rw[if_pos h3]at h ⊢
        obtain rfl:=(Option.some.inj h).symm
        exact⟨_,rfl,a7O hs3 hM3⟩
      rw[if_neg h3]at h ⊢
      refine sH hs3 hM3 (fun out o h=> ?_) h
      refine vC (A:=TxtQ w) (fun p hp=>ihP M _ out x x' s3 s3' p hvx hs3 hM3 hp) (fun y6 o2 o2' s4 s4' o y7 ho hs4 hM4 h=> ?_) h
      have ho:o2'=o2:=ho
      subst ho
      obtain rfl:=(Option.some.inj h).symm
      exact⟨_,rfl,a7O hs4 hM4⟩
     cases v2 with
     | atom k t=>
       rw[show v2'= .atom k t from hv2]at hk ⊢
       exact rest (.atom k t) (.atom k t) rfl rfl h
     | fn e env g=>
       obtain⟨k,t,ns,a2⟩:=e
       have hv3:=hv2
       obtain⟨env',g',rfl,_⟩:=hv2
       exact rest (.fn (.mk k t ns a2) env g) (.fn (.mk k t ns a2) env' g') rfl hv3 h
     | pair c d'=>
       obtain⟨c',d'',rfl,g1,g2⟩:=hv2
       exact sH hs3 hM3 (fun out o h=>ihR M _ out c d' c' d'' s3 s3' o g1 g2 hs3 hM3 h) h
end Go.Lite
/-
  A plain law of the machine: what a pair holds, reckoned then.
-/
namespace Go.Lite
def uB (op:Str) (a b:X):X:= .mk 10 op [] [.mk 10 kY [] [a,b]]
theorem aAv {w:Str}{e:X}(hw:e.wf) (hno:e.no w) {N:Nat}(hN:deep 3000≤N) {o:O Str}(h:outA N e [] 2000=some o) (hk:o.kind≠6) {cs:List C}{c:Nat}(hc0:c≠0) (hc:(C.done (.atom 3 zD)::cs)[c]? = some (.wait e [(xP,0)])):
 ∃ o',((qP 3000 (N+1) c ⟨.done (.atom 3 zD)::cs,2,0⟩).bind fun r=>r.bind fun v s=>printA 3000 N [] v s)=some o'∧o'.kind=o.kind∧o'.txt=o.txt:=by
 unfold deep at hN
 have hz:xZ [] ⟨[],0,0⟩=(0,s0):=rfl
 have h0:S.ok s0:=fun c hc=>by
  simp only[s0,List.mem_singleton]at hc
  subst hc;trivial
 have hin:EnvIn s0.cells.length [(xP,0)]:=fun p hp=>by
  simp only[List.mem_singleton]at hp
  subst hp;decide
 obtain⟨o2,ho2,go2⟩:=bH e hw [] 2998 N (by unfold deep;omega)
 have e2:=a8G (by omega) h ho2 hk
 subst e2
 unfold outA at ho2
 rw[hz]at ho2
 simp only[]at ho2
 obtain⟨p,hp,hpr⟩:=Option.bind_eq_some_iff.1 ho2
 have hcl:c<(C.done (.atom 3 zD)::cs).length:=(List.getElem?_eq_some_iff.1 hc).1
 have hst:StQ w [0] 2 1 s0 (S.set ⟨.done (.atom 3 zD)::cs,2,0⟩ c (.busy e [(xP,0)])).used:=by
  refine⟨rfl,by simp,by simp[S.set,S.used],fun i j c' hj hi=> ?_,rfl,rfl⟩
  have hi0:i=0:=by
   have:=(List.getElem?_eq_some_iff.1 hi).1
   simp[s0]at this;omega
  subst hi0
  simp only[List.getElem?_cons_zero,Option.some.injEq,s0]at hj hi
  subst hj hi
  refine⟨.done (.atom 3 zD),?_,_,rfl,rfl⟩
  simp only[S.set,S.used]
  rw[List.getElem?_set_ne hc0];rfl
 have henv:EnvQ w [0] [(xP,0)] [(xP,0)]:=by
  intro t ht
  refine⟨fun q hq=>⟨q,hq,?_⟩,fun hq=>hq⟩
  have:=List.mem_of_find?_eq_some hq
  simp only[List.mem_singleton]at this
  subst this;rfl
 have hM:(C.done (.atom 3 zD)::cs).length≤(S.set ⟨.done (.atom 3 zD)::cs,2,0⟩ c (.busy e [(xP,0)])).used.cells.length:=by simp[S.set,S.used]
 obtain⟨p',hp',hq⟩:=(simA 2998 2 1 N).1 (C.done (.atom 3 zD)::cs).length [0] e _ _ _ _ p hno henv hst hM hp
 have hp':evalA 3000 N e [(xP,0)] (S.set ⟨.done (.atom 3 zD)::cs,2,0⟩ c (.busy e [(xP,0)])).used=some p':=hp'
 have hf:qP 3000 (N+1) c ⟨.done (.atom 3 zD)::cs,2,0⟩=p'.bind fun v s=>some (.val v (s.set c (.done v))):=by
  rw[qP]
  simp only[]
  rw[hc]
  simp only[]
  rw[hp'];rfl
 rw[hf]
 cases p with
 | stop k t s1=>
   obtain⟨s1',rfl,q1,q2⟩:=hq
   obtain rfl:=(Option.some.inj hpr).symm
   exact⟨_,rfl,rfl,rfl⟩
 | val v s1=>
   obtain⟨x,v',s1',rfl,hx,hv,hs1,hM1⟩:=hq
   have hpr:printA 2998 N [] v s1=some o2:=hpr
   have hst3:StQ w ([0]++x) 2 1 s1 (s1'.set c (.done v')):=by
    refine⟨hs1.len,hs1.nodup,fun j hj=>by simpa[S.set]using hs1.low j hj,fun i j c' hj hi=> ?_,hs1.steps,hs1.uses⟩
    obtain⟨c2,h1,h2⟩:=hs1.cells i j c' hj hi
    refine⟨c2,?_,h2⟩
    have hj1:c≠j:=by
     rintro rfl
     have:=List.mem_of_getElem? hj
     rcases List.mem_append.1 this with h|h
     · simp at h;exact hc0 h
     · have:=hx _ h;omega
    simp only[S.set]
    rw[List.getElem?_set_ne hj1];exact h1
   obtain⟨o',ho',hq'⟩:=(simP 2998 2 1 N).1 (C.done (.atom 3 zD)::cs).length ([0]++x) [] v v' _ _ o2 hv hst3 (by simpa[S.set]using hM1) hpr
   have ho':printA 3000 N [] v' (s1'.set c (.done v'))=some o':=ho'
   refine⟨o',ho',?_⟩
   cases o2 with
   | stop k t s4=>
     obtain⟨s4',rfl,q1,q2⟩:=hq'
     exact⟨rfl,rfl⟩
   | val out s4=>
     obtain⟨y,out',s4',rfl,_,ht,hs4,_⟩:=hq'
     have ht:out'=out:=ht
     subst ht
     exact⟨rfl,rfl⟩
theorem aAw {e:X}(hv:∀ k t ns l,e= .mk k t ns l→k≠5) (env:Env) (s:S):(∃ k t ns l,e= .mk k t ns l∧(1≤k∧k≤4)∧argA e env s=s.new (.done (xK k t)))∨argA e env s=s.new (.wait e env):=by
 obtain⟨k,t,ns,l⟩:=e
 have h5:=hv k t ns l rfl
 unfold argA
 simp only[]
 rw[if_neg h5]
 by_cases h:1≤k∧k≤4
 · rw[if_pos h];exact .inl ⟨k,t,ns,l,rfl,h,rfl⟩
 · rw[if_neg h];exact .inr rfl
theorem a8I {k:Int}{t:Str}{ns:List Str}{l:List X}(hk:1≤k∧k≤4) {N:Nat}(hN:2≤N) {o:O Str}(h:outA N (.mk k t ns l) [] 2000=some o) {M:Nat}(s:S):∃ o',printA 3000 (M+1) [] (xK k t) s=some o'∧o'.kind=o.kind∧o'.txt=o.txt:=by
 obtain⟨N,rfl⟩:∃ j,N=j+1:=⟨N-1,by omega⟩
 obtain⟨k',t',hc⟩:∃ k' t',xK k t= .atom k' t':=by
  unfold xK
  repeat' split
  all_goals exact⟨_,_,rfl⟩
 unfold outA at h
 rw[jR,if_neg (by simp[S.tick,xZ,S.new])]at h
 unfold bT at h
 rw[if_neg (by omega),if_neg (by omega),if_neg (by omega),if_neg (by omega),if_neg (by omega),if_neg (by omega)]at h
 simp only[Option.bind_some,O.bind]at h
 rw[hc,yU]at h
 rw[hc,yU]
 obtain rfl:=Option.some.inj h
 refine⟨_,rfl,?_⟩
 unfold sayA
 split<;>exact⟨rfl,rfl⟩
theorem a5N {w:Str}{a b e:X}{op:Str}(hop:(op=carT∧e=a)∨(op=cdrT∧e=b)) (ha:∀ k t ns l,a= .mk k t ns l→k≠5) (hb:∀ k t ns l,b= .mk k t ns l→k≠5) (hw:e.wf) (hno:e.no w) {N:Nat}(hN:deep 3000≤N) {o:O Str}(h:outA N e [] 2000=some o) (hk:o.kind≠6):
 ∃ o',outA (N+2) (uB op a b) [] 3000=some o'∧o'.kind=o.kind∧o'.txt=o.txt:=by
 have hz:xZ [] ⟨[],0,0⟩=(0,s0):=rfl
 have hN2:2≤N:=by unfold deep at hN;omega
 have hne:op≠kY:=by rcases hop with⟨rfl,_⟩|⟨rfl,_⟩<;>decide
 have hcc:op=carT∨op=cdrT:=hop.imp (·.1) (·.1)
 -- the pair
 have hgo:∀ p q s2,argA a [(xP,0)] ⟨s0.cells,2,0⟩=(p,s2)→∀ s3,argA b [(xP,0)] s2=(q,s3)→evalA 3000 (N+2) (uB op a b) [(xP,0)] s0=qP 3000 (N+1) (if op=carT then p else q) s3:=by
  intro p q s2 h1 s3 h2
  rw[uB,jR,if_neg (by simp[S.tick,s0])]
  unfold bT
  rw[if_neg (by decide),if_neg (by decide),if_neg (by decide),if_neg (by decide),if_neg (by decide),if_pos rfl]
  simp only[]
  rw[jR,if_neg (by simp[S.tick,s0])]
  unfold bT
  rw[if_neg (by decide),if_neg (by decide),if_neg (by decide),if_neg (by decide),if_neg (by decide),if_pos rfl]
  simp only[sJ,if_true,Option.bind_some,O.bind]
  have e0:s0.tick.tick=⟨s0.cells,2,0⟩:=rfl
  rw[e0,h1]
  simp only[]
  rw[h2]
  unfold a0q
  rw[if_pos hcc]
 have up:∀ c s3 o',((qP 3000 (N+1) c s3).bind fun r=>r.bind fun v s=>printA 3000 N [] v s)=some o'→((qP 3000 (N+1) c s3).bind fun r=>r.bind fun v s=>printA 3000 (N+2) [] v s)=some o':=by
  intro c s3 o' h
  obtain⟨p,hp,h⟩:=Option.bind_eq_some_iff.1 h
  rw[hp]
  cases p with
  | stop k t s=>exact h
  | val v s=>exact a5W (by omega:N≤N+2) _ _ _ _ h
 unfold outA
 rw[hz]
 simp only[]
 -- a cell is made for each
 have key:∀ (ca cb:C),argA a [(xP,0)] ⟨s0.cells,2,0⟩=S.new ⟨s0.cells,2,0⟩ ca→(∀ s,argA b [(xP,0)] s=S.new s cb)→evalA 3000 (N+2) (uB op a b) [(xP,0)] s0=qP 3000 (N+1) (if op=carT then 1 else 2) ⟨.done (.atom 3 zD)::[ca,cb],2,0⟩:=by
  intro ca cb h1 h2
  exact hgo 1 2 _ h1 _ (h2 _)
 have fa:=aAw ha [(xP,0)] ⟨s0.cells,2,0⟩
 have fb:(∃ k t ns l,b= .mk k t ns l∧(1≤k∧k≤4)∧∀ s,argA b [(xP,0)] s=S.new s (.done (xK k t)))∨∀ s,argA b [(xP,0)] s=S.new s (.wait b [(xP,0)]):=by
  obtain⟨k,t,ns,l⟩:=b
  have h5:=hb k t ns l rfl
  by_cases h:1≤k∧k≤4
  · refine .inl ⟨k,t,ns,l,rfl,h,fun s=> ?_⟩
    unfold argA;simp only[]
    rw[if_neg h5,if_pos h]
  · refine .inr fun s=> ?_
    unfold argA;simp only[]
    rw[if_neg h5,if_neg h]
 have fin:∀ (c:Nat) (cs:List C),c≠0→((C.done (.atom 3 zD)::cs)[c]? = some (.wait e [(xP,0)])∨∃ k t ns l,e= .mk k t ns l∧(1≤k∧k≤4)∧(C.done (.atom 3 zD)::cs)[c]? = some (.done (xK k t)))→
  ∃ o',((qP 3000 (N+1) c ⟨.done (.atom 3 zD)::cs,2,0⟩).bind fun r=>r.bind fun v s=>printA 3000 (N+2) [] v s)=some o'∧o'.kind=o.kind∧o'.txt=o.txt:=by
  intro c cs hc0 hc
  rcases hc with hc|⟨k,t,ns,l,rfl,hkk,hc⟩
  · obtain⟨o',h1,h2,h3⟩:=aAv hw hno hN h hk hc0 hc
    exact⟨o',up _ _ _ h1,h2,h3⟩
  · obtain⟨o',h1,h2,h3⟩:=a8I (M:=N+1) hkk hN2 h ⟨.done (.atom 3 zD)::cs,2,0⟩
    refine⟨o',?_,h2,h3⟩
    rw[qP]
    simp only[]
    rw[hc]
    exact h1
 rcases fa with⟨ka,ta,na,la,ea,hka,ga⟩|ga<;>rcases fb with⟨kb,tb,nb,lb,eb,hkb,gb⟩|gb
 all_goals
  rw[key _ _ ga gb]
  rcases hop with⟨rfl,rfl⟩|⟨rfl,rfl⟩
  · rw[if_pos rfl]
    refine fin 1 _ (by decide) ?_
    first
     | exact .inl rfl
     | exact .inr ⟨_,_,_,_,ea,hka,rfl⟩
  · rw[if_neg (by decide)]
    refine fin 2 _ (by decide) ?_
    first
     | exact .inl rfl
     | exact .inr ⟨_,_,_,_,eb,hkb,rfl⟩
end Go.Lite
/-
  A law's call, from the interpreter's run; a row that lists variables, of which one is read; raw terms as they stand in the world.
-/
namespace Go.Lite
open Go Go.Proofs Go.RowKit
theorem a4C {H:Type}{enc:TypeId×Value→H}{a:Assume}{C:Checked}{os:Os}{f:FuncId}{fn:Func}{s:ChangeSpec}{conds:List PathCond}{apart fresh handsOn again:Bool}{X:World→Array Value→Prop}
 (own:ownKnob C.prog.godebug=none) (started:os.Started) (noInit:C.prog.inits.idxOf? f=none) (hfn:C.prog.funcs[f]? = some fn)
 (witness:∃ (w:World) (tape:Tape) (i:Input),w.os=os∧(w.forCall tape i).Shaped C.prog∧i.vars=[]∧Input.okWide C.prog (w.forCall tape i) .any w.heap.size f i∧
   ((s.pre enc C.prog fn conds apart (w.forCall tape i).memory i.args∧X (w.forCall tape i).memory i.args)∧sizedMet enc C.prog fn (OpenSpec.ofChange s) apart (w.forCall tape i).memory i.args)∧a.holds C.prog (lone (Frame.enter C.prog f i.args .normal) [] (w.forCall tape i)))
 (contract:∀ (W:World) (base:Nat) (args:Array Value) (ds gs:List (DataW H)) (before:List MemPlace),
   (∀ (j:Nat) t v,fn.params[j]? = some t→args[j]? = some v→Value.okWide C.prog W .any base t v)→
   DataW.Whole enc C.prog fn.params.toList s.vars apart W args.toList ds gs before→
   conds.all (PathCond.test C.prog ⟨fn.params.toList,ds,s.plain.varTypes C.prog,gs⟩)=true→
   (DataW.weightsEach C.prog (fn.params.toList++s.plain.varTypes C.prog) (ds++gs)).all (· ≤ reachBytes)=true→
   W.ShapedOpen C.prog→X W.memory args→
   a.holds C.prog (lone (Frame.enter C.prog f args .normal) [] W)→
   Calls C.prog f args W fun e W'=>∃ v,e= .returned v∧s.post enc C.prog fn apart fresh handsOn again W args v W'):
 ReturnsInHanded a C os f .any (fun w args=>(s.pre enc C.prog fn conds apart w args∧X w args)∧sizedMet enc C.prog fn (OpenSpec.ofChange s) apart w args) (s.post enc C.prog fn apart fresh handsOn again):=by
 refine returnsInHanded_of_calls own started noInit witness ?_
 intro w tape i _ hsh _ hok hpre hholds
 obtain⟨_,_,_,fn',hfn',_,_,_,_,hval⟩:=hok
 have e:fn'=fn:=Option.some.inj (hfn'.symm.trans hfn)
 subst e
 obtain⟨⟨⟨ds,gs,before,hw,hc⟩,hx⟩,hz⟩:=hpre
 have hw':=DataW.Whole.of_heap (w':=w.forCall tape i) (by rfl) hw
 refine(contract (w.forCall tape i) w.heap.size i.args ds gs before hval hw' hc (hz.weights hw) hsh hx hholds).mono fun e W' ⟨v,he,hp⟩=> ?_
 subst he
 exact ChangeSpec.post_blind hp
theorem a5g {W : World} {a b : DataW Unit} (h : laidMet Tryz.prog [("math/bits.deBruijn32tab", a), ("math/bits.deBruijn64tab", b), ("internal/strconv.uint64pow10", Go.Proofs.YtmfdlglhngmacaaGreatDoor.Rows.laid_internal_strconv_uint64pow10)] W.memory) : TabAt W := by
 have h2 := h.filter fun x => x.1 == "internal/strconv.uint64pow10"
 have h3 : laidMet Tryz.prog [("internal/strconv.uint64pow10", Lib.tabData .u64 Lib.pow10Tab)] W.memory := h2
 have h4:=Lib.tabIs_of_head (g:=0) (t:=261) (e:=251) (n:=20) (by kernel_rfl) (by kernel_rfl) (by kernel_rfl) (by kernel_rfl) (by kernel_rfl) (by kernel_rfl) h3
 exact h4
theorem a2S {H:Type}{enc:TypeId×Value→H}{P:Program}{W:World}{sp:Nat→Bool}{held:Bool}{t e:TypeId}{fs:Array Field}(ht:P.underlying t=some (.slice e)) (he:P.underlying e=some (.struct fs)) (hc:P.cellsOf e=3)
 (hf0:∃ f,fs[0]? = some f∧f.offset=0∧P.underlying f.type=some (.int .i64)∧P.cellsOf f.type=1) (hf1:∃ f,fs[1]? = some f∧f.offset=1∧P.underlying f.type=some (.int .i64)∧P.cellsOf f.type=1)
 (hf2:∃ f,fs[2]? = some f∧f.offset=2∧f.type=t∧P.cellsOf f.type=1):
 ∀ (fuel:Nat) (u:Value) (x:DataW H×List MemPlace),DataW.trod enc P W 0 sp held fuel t [u]=some x→
 ∃ l:List Raw,(l.length≤9223372036854775807∧Raw.fits l)∧VRel (nbT W.heap.size) (emb0 W) (kC l) u:=by
 intro fuel
 induction fuel using Nat.strongRecOn with
 | _ fuel ih =>
   intro u x h
   rcases DataW.trod_slice ht h with⟨h1,_⟩|⟨a,len,cap,elems,rest,n,hfu,h1,_,_,hl,hm,hlen,hel,_,_⟩
   · simp only[List.cons.injEq,and_true]at h1
     subst h1
     exact⟨[],⟨by simp,trivial⟩,a2A⟩
   · simp only[List.cons.injEq,and_true]at h1
     subst h1
     rw[hc]at hel
     obtain⟨l,h1,h2,h3⟩:=a9k (W:=W) (g:=Raw.cells) (F:=Raw.fit) (es:=3) (by decide) Raw.cells_len hl fun i hi=>by
      obtain⟨y,hy⟩:∃ y,elems[i]? = some y:=⟨elems[i]'(by omega),List.getElem?_eq_getElem _⟩
      have:=hel i hi
      rw[hy]at this
      obtain⟨cs,hcs,hd⟩:=Option.bind_eq_some_iff.1 this
      obtain⟨xs,m,hm,_,hcl,hxl,hfs⟩:=DataW.trod_struct he hd
      rw[hc]at hcl
      obtain⟨c0,c1,c2,rfl⟩:∃ c0 c1 c2,cs=[c0,c1,c2]:=by
       match cs,hcl with
       | [c0,c1,c2],_=>exact⟨c0,c1,c2,rfl⟩
      obtain⟨f0,g0,o0,u0,z0⟩:=hf0
      obtain⟨f1,g1,o1,u1,z1⟩:=hf1
      obtain⟨f2,g2,o2,u2,z2⟩:=hf2
      have q0:=hfs 0 f0 g0
      have q1:=hfs 1 f1 g1
      have q2:=hfs 2 f2 g2
      have hsz:xs.length=fs.size:=hxl
      have l2:2<fs.size:=(Array.getElem?_eq_some_iff.1 g2).1
      rw[o0,z0,List.getElem?_eq_getElem (by omega)]at q0
      rw[o1,z1,List.getElem?_eq_getElem (by omega)]at q1
      rw[o2,z2,u2,List.getElem?_eq_getElem (by omega)]at q2
      simp only[List.drop_zero,List.take_succ_cons,List.take_zero,List.drop_succ_cons]at q0 q1 q2
      obtain⟨k,hk,_,_⟩:=DataW.trod_int u0 q0
      obtain⟨q,hq,_,_⟩:=DataW.trod_int u1 q1
      obtain⟨l',⟨w1,w2⟩,w3⟩:=ih m (by omega) c2 _ q2
      simp only[List.cons.injEq,and_true]at hk hq
      subst hk;subst hq
      refine⟨_,.mk k q l',hcs,?_,w1,w2⟩
      rw[Raw.cells_mk]
      simp only[VRels,VRel]
      exact⟨_,_,rfl,rfl,_,_,rfl,rfl,_,_,rfl,w3,rfl⟩
     have hmx:maxLen=9223372036854775807:=by decide
     exact⟨l,⟨by omega,(Raw.fits_iff l).2 h3⟩,h2⟩
theorem a7C {nb:NB}(hgl:(Tryz.prog).globals.size≤nb.n) (hT:∀ w,nb.inv w→TabAt w):∀ f g,own5 f=some g→rR Tryz.prog nb f g:=by
 intro f g h
 unfold own5 at h
 cases h0:Nat.beq f 12 with
 | true=>
   rw[h0]at h
   simp only[cond_true,Option.some.injEq]at h
   subst h
   intro xs args ι H w out hh
   cases hh
 | false=>
 rw[h0]at h
 simp only[cond_false]at h
 cases h1:Nat.beq f 95 with
 | true=>
   rw[h1]at h
   simp only[cond_true,Option.some.injEq]at h
   subst h
   rw[Nat.eq_of_beq_eq_true h1]
   refine a5I ?_
   intro t c o h
   simp only[rQ,Bool.or_eq_true,Bool.and_eq_true]at h
   rcases h with⟨⟨h1,h2⟩,h3⟩|⟨⟨h1,h2⟩,h3⟩
   · rw[Nat.eq_of_beq_eq_true h1,Nat.eq_of_beq_eq_true h2,Nat.eq_of_beq_eq_true h3]
     exact⟨by decide,by kernel_rfl⟩
   · rw[Nat.eq_of_beq_eq_true h1,Nat.eq_of_beq_eq_true h2,Nat.eq_of_beq_eq_true h3]
     exact⟨by decide,by kernel_rfl⟩
 | false =>
   rw[h1]at h
   simp only[cond_false]at h
   cases h2:Nat.beq f 28 with
   | true=>
     rw[h2]at h
     simp only[cond_true,Option.some.injEq]at h
     subst h
     rw[Nat.eq_of_beq_eq_true h2]
     exact a3X
   | false =>
     rw[h2]at h
     simp only[cond_false]at h
     cases h3:Nat.beq f 124 with
     | true=>
       rw[h3]at h
       simp only[cond_true,Option.some.injEq]at h
       subst h
       rw[Nat.eq_of_beq_eq_true h3]
       exact a5n hgl (by kernel_rfl) (e:=3) (by decide) (fun own mode=>aCB own mode)
     | false=>
       rw[h3]at h
       simp only[cond_false]at h
       cases h4:Nat.beq f 147 with
       | true=>
         rw[h4]at h
         simp only[cond_true,Option.some.injEq]at h
         subst h
         rw[Nat.eq_of_beq_eq_true h4]
         exact a6X hT
       | false=>
         rw[h4]at h
         simp only[cond_false]at h
         cases h5:Nat.beq f 148 with
         | true=>
           rw[h5]at h
           simp only[cond_true,Option.some.injEq]at h
           subst h
           rw[Nat.eq_of_beq_eq_true h5]
           exact a3N
         | false=>rw[h5]at h;cases h
theorem aCM {nb:NB}(hgl:(Tryz.prog).globals.size≤nb.n) (hT:∀ w,nb.inv w→TabAt w):∀ f g,own6 f=some g→rR Tryz.prog nb f g:=by
 intro f g h
 unfold own6 at h
 cases h0:Nat.beq f 12 with
 | true=>
   rw[h0]at h
   simp only[cond_true,Option.some.injEq]at h
   subst h
   rw[Nat.eq_of_beq_eq_true h0]
   exact aAf hgl fun n=>vJ hgl (by kernel_rfl) (a7C hgl hT) n
 | false=>
   rw[h0]at h
   exact a7C hgl hT f g h
theorem a4b {W:World}(hsh:W.ShapedOpen Tryz.prog) (hT:TabAt W) {f:Nat}{xs:List AV}{args:Array Value}(h:Ret P6 f xs (.bool true)) (hxs:VRels (nbT W.heap.size) (emb0 W) xs args.toList):
 Calls Tryz.prog f args W fun e w'=>e= .returned (.bool true)∧RowKit.Below W.heap.size W w':=by
 obtain⟨N,hN⟩:=h
 have hgl:=a6Y hsh
 have hp:0<W.heap.size:=by
  have h1:0<(Tryz.prog).globals.size:=of_decide_eq_true (by kernel_rfl)
  omega
 exact a92 (nb:=nbT W.heap.size) rfl ⟨hp,hT⟩ hgl (by kernel_rfl) (aCM hgl fun w h=>h.2) (hN N (Nat.le_refl _) pF) hxs
end Go.Lite
/-
  A world in which the listed variables hold what is listed.
-/
namespace Go.Lite
open Go Go.Proofs Go.RowKit
def a8C {H:Type}:DataW H→Array Value
 | .agg l=>(l.map fun d=>match d with | .lit (.int k n)=>Value.int k n|_=> .bool false).toArray
 | _=> #[]
noncomputable def a3f (P:Program) (os:Os) (l:List (Nat×DataW Unit)):World:=
 let w0:=World.holding P os ⟨#[],#[],[]⟩
 { w0 with heap:=l.foldl (fun h p=>h.modify p.1 fun
    | .cells _ t frozen=> .cells (a8C p.2) t frozen
    | o=>o) w0.heap }
end Go.Lite
