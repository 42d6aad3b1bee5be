/-
  Several texts in one: TTame, TNor, TNorB, TLaw0, TLaw1, TNorC, ZLaw1, TRows, TLaid.
-/
import Derived.Test.YtmfdlglhngmacaaGreatDoorXN
import Derived.Test.YtmfdlglhngmacaaGreatDoorXL
import Derived.Test.YtmfdlglhngmacaaGreatDoorXK
import Derived.Test.YtmfdlglhngmacaaGreatDoorXI
import Derived.Test.YtmfdlglhngmacaaGreatDoorXJ
import Derived.Test.YtmfdlglhngmacaaGreatDoorXS
import Derived.Test.YtmfdlglhngmacaaGreatDoorXE
import Derived.Test.YtmfdlglhngmacaaGreatDoorRows
import Derived.LaidLaws
import Derived.LaidSub
import Derived.Handed
set_option linter.unusedSimpArgs false
set_option linter.unusedVariables false
set_option linter.defProp false
set_option maxRecDepth 100000
/-
  What the maker makes is well formed, small; a name that is not there is not used.
-/
namespace Go.Lite
open Go Go.Proofs
theorem aBd {t:Str}(h:t∈intT):t.length≤1000∧∃ z:Int,z.natAbs<10^200∧t=decZ z:=by
 have pos:∀ d:Str,Digs d→d≠[]→d[0]? ≠ some 48→d.length≤30→d.length≤1000∧∃ z:Int,z.natAbs<10^200∧d=decZ z:=fun d h1 h2 h3 h4=>by
  have e:=a8f h1 h2 h3
  refine⟨by omega,(dval d:Nat),?_,by rw[vB,e]⟩
  have:dval d<10^200:=(kM (by decide)).1 (by rw[e];omega)
  simpa using this
 have neg:∀ c:Nat,48<c→c≤57→([45,c]:Str).length≤1000∧∃ z:Int,z.natAbs<10^200∧([45,c]:Str)=decZ z:=fun c h1 h2=>by
  refine⟨by simp,-((c-48:Nat):Int),?_,?_⟩
  · have:(-((c-48:Nat):Int)).natAbs≤9:=by omega
    exact Nat.lt_of_le_of_lt this (by decide)
  · rw[a1K (by omega),zL (by omega)]
    simp;omega
 simp only[intT,List.mem_cons,List.not_mem_nil,or_false]at h
 rcases h with rfl|rfl|rfl|rfl|rfl|rfl|rfl|rfl|rfl
 · exact⟨by simp,0,by decide,by rw[show(0:Int)=((0:Nat):Int)from rfl,vB,zL (by omega)]⟩
 · exact pos _ (by intro c hc;simp at hc;omega) (by simp) (by simp) (by simp)
 · exact pos _ (by intro c hc;simp at hc;omega) (by simp) (by simp) (by simp)
 · exact neg 51 (by decide) (by decide)
 · exact pos _ (by intro c hc;simp at hc;omega) (by simp) (by simp) (by simp)
 · exact neg 53 (by decide) (by decide)
 · exact pos _ (by intro c hc;simp at hc;omega) (by simp) (by simp) (by simp)
 · exact pos _ (by intro c hc;simp at hc;omega) (by simp) (by simp) (by simp)
 · exact pos _ (by intro c hc;simp at hc;omega) (by simp) (by simp) (by simp)
theorem rM (s:Str):∀ (l:List Str) (i:Nat),0<vP s l i→s∈l∧vP s l i≤2
 | [],i,h=>by simp[vP]at h
 | p :: l, i, h => by
   rw[vP]at h ⊢
   by_cases hp:(p==s)=true
   · rw[if_pos hp]
     have:p=s:=by simpa using hp
     exact⟨by simp[this],by split<;>omega⟩
   · rw[if_neg hp]at h ⊢
     obtain⟨h1,h2⟩:=rM s l (i+1) h
     exact⟨by simp[h1],h2⟩
theorem aEf {k:Int}{t:Str}{ns:List Str}{l:List X}(h:shp k t ns.length l.length) (hl:X.wfs l):(X.mk k t ns l).wf:=by
 have ha:k=10→0<jP t→jP t≤2:=fun _ h=>(rM t primT 0 h).2
 rw[X.wf]
 refine⟨?_,?_,?_,?_,?_,hl⟩
 · rintro rfl hl;subst hl;simp[shp]at h
 · rintro rfl hl;subst hl;simp[shp]at h
 · rintro rfl;simp[shp]at h;omega
 · rintro rfl;simp[shp]at h;omega
 · rintro rfl
   have ha:=ha rfl
   simp[shp]at h
   omega
theorem a5D:∀ x:X,x.right→x.wf:=X.indA fun k t ns l ih h=>by
 obtain⟨h1,_,h3⟩:=h
 exact aEf h1 ((X.wfs_iff l).2 fun x hx=>ih x hx ((gD l).1 h3 x hx))
theorem a9U {t:Str}(h:0<jP t):t.length≤1000∧∀ c∈t,c<256:=by
 have:=(rM t primT 0 h).1
 have key:∀ t∈primT,t.length≤1000∧∀ c∈t,c<256:=by decide
 exact key t this
theorem aD6 {k:Int}{t:Str}{m n:Nat}(h:shp k t m n) (h5:k=5→t.length≤1000∧∀ c∈t,c<256):bM k t:=by
 unfold bM
 rcases h with⟨rfl,h,_⟩|⟨rfl,h,_⟩|⟨rfl,rfl,_⟩|⟨rfl,h,_⟩|⟨rfl,h,_⟩|⟨rfl,rfl,_⟩|⟨rfl,rfl,_⟩|⟨rfl,rfl,_⟩|⟨rfl,rfl,_⟩|⟨rfl,h,_⟩
 · obtain⟨h1,z,h2,rfl⟩:=aBd h
   exact⟨⟨h1,a0r z⟩,fun _=>⟨z,h2,rfl⟩⟩
 · exact⟨by rcases h with rfl|rfl<;>decide,fun h=>absurd h (by decide)⟩
 · exact⟨⟨by simp,by simp⟩,fun h=>absurd h (by decide)⟩
 · exact⟨h.2,fun h=>absurd h (by decide)⟩
 · exact⟨h5 rfl,fun h=>absurd h (by decide)⟩
 · exact⟨⟨by simp,by simp⟩,fun h=>absurd h (by decide)⟩
 · exact⟨⟨by simp,by simp⟩,fun h=>absurd h (by decide)⟩
 · exact⟨⟨by simp,by simp⟩,fun h=>absurd h (by decide)⟩
 · exact⟨⟨by simp,by simp⟩,fun h=>absurd h (by decide)⟩
 · exact⟨a9U h,fun h=>absurd h (by decide)⟩
mutual
def X.no (w:Str):X→Prop
 | .mk k t _ l=>(k=5→t≠w)∧X.nos w l
def X.nos (w:Str):List X→Prop
 | []=>True
 | x::l=>x.no w∧X.nos w l
end
theorem X.nos_iff (w:Str):∀ (l:List X),X.nos w l↔∀ x∈l,x.no w
 | []=>by simp[X.nos]
 | x::l=>by simp[X.nos,X.nos_iff w l]
theorem aB7 (n:Nat):(vdot n).length≤10:=by
 have:=uD n
 rw[vdot,List.length_append]
 simp only[List.length_cons,List.length_nil];omega
theorem a8v (n:Nat) (h:n≤901):∀ c∈vdot n,c<256:=by
 unfold vdot numT
 intro c hc
 rcases List.mem_append.1 hc with hc|hc
 · simp only[List.mem_cons,List.not_mem_nil,or_false]at hc
   omega
 · by_cases h1:n<10<;>by_cases h2:n<100<;>simp only[h1,h2,if_true,if_false,List.mem_cons,List.not_mem_nil,or_false]at hc<;>omega
theorem a9o:∀ (x:X) (sc:List Str) (m m':Nat),x.good sc m m'→m'≤900→(∀ s∈sc,s.length≤1000∧∀ c∈s,c<256)→x.tame:=X.indA fun k t ns l ih sc m m' h hm hs=>by
 have hb:=dA _ sc m m' h
 obtain⟨h1,h2,h3,h4,h5⟩:=h
 have key:∀ (l:List X),(∀ x∈l,∀ sc m m',x.good sc m m'→m'≤900→(∀ s∈sc,s.length≤1000∧∀ c∈s,c<256)→x.tame)→∀ sc m m',X.goods l sc m m'→m'≤900→(∀ s∈sc,s.length≤1000∧∀ c∈s,c<256)→X.tames l∧m≤m':=by
  intro l
  induction l with
  | nil=>intro _ sc m m' h _ _;rw[X.goods]at h;exact⟨trivial,by omega⟩
  | cons x l ihl=>
    intro hx sc m m' h hm hs
    obtain⟨m1,g1,g2⟩:=h
    obtain⟨j1,j2⟩:=ihl (fun y hy=>hx y (by simp[hy])) sc m1 m' g2 hm hs
    have:=(dA x sc m m1 g1).1
    exact⟨⟨hx x (by simp) sc m m1 g1 (by omega) hs,j1⟩,by omega⟩
 rw[X.tame]
 have hnl:ns.length≤m'-m:=by
  have e:=hb.2
  rw[X.bnd]at e
  have:=congrArg List.length e
  rw[xR,List.length_append]at this
  omega
 have hsn:∀ s∈sc++ns,s.length≤1000∧∀ c∈s,c<256:=fun s hs'=>by
  rcases List.mem_append.1 hs' with hs'|hs'
  · exact hs s hs'
  · rw[h4,vds,List.mem_map]at hs'
    obtain⟨j,hj,rfl⟩:=hs'
    have:=aB7 j
    rw[List.mem_range'_1]at hj
    exact⟨by omega,a8v j (by omega)⟩
 exact⟨aD6 h1 fun h=>hs t (h3 h),by omega,by omega,(key l ih (sc++ns) _ m' h5 hm hsn).1⟩
theorem aCC (w:Str) (hw:∀ j,vdot j≠w):∀ (x:X) (sc:List Str) (m m':Nat),x.good sc m m'→(∀ s∈sc,s≠w)→x.no w:=X.indA fun k t ns l ih sc m m' h hs=>by
 obtain⟨h1,h2,h3,h4,h5⟩:=h
 have key:∀ (l:List X),(∀ x∈l,∀ sc m m',x.good sc m m'→(∀ s∈sc,s≠w)→x.no w)→∀ sc m m',X.goods l sc m m'→(∀ s∈sc,s≠w)→X.nos w l:=by
  intro l
  induction l with
  | nil=>intro _ sc m m' h _;trivial
  | cons x l ihl=>
    intro hx sc m m' h hs
    obtain⟨m1,g1,g2⟩:=h
    exact⟨hx x (by simp) sc m m1 g1 hs,ihl (fun y hy=>hx y (by simp[hy])) sc m1 m' g2 hs⟩
 rw[X.no]
 refine⟨fun h=>hs t (h3 h),key l ih (sc++ns) _ m' h5 fun s hs'=> ?_⟩
 rcases List.mem_append.1 hs' with hs'|hs'
 · exact hs s hs'
 · rw[h4,vds,List.mem_map]at hs'
   obtain⟨j,hj,rfl⟩:=hs'
   exact hw j
end Go.Lite
/-
  A term, its arguments by name: a run of it beside a run of the term; what stands for what.
-/
namespace Go.Lite.Nor
open Go.Lite
def aBn (t:Str):Prop:=∃ j,t=pct j
mutual
def cl:X→Prop
 | .mk k t _ l=>(k=5→¬aBn t)∧(k=10→t=yI→l.length=2)∧cls l
def cls:List X→Prop
 | []=>True
 | x::l=>cl x∧cls l
end
theorem cls_iff:∀ (l:List X),cls l↔∀ x∈l,cl x
 | []=>by simp[cls]
 | x::l=>by simp[cls,cls_iff l]
def RT (e e':X):Prop:=∃ c,(e.nrm c).1=e'
def RTs:List X→List X→Prop
 | [],[]=>True
 | x::l,y::m=>RT x y∧RTs l m
 | _,_=>False
theorem RTs.len:∀ {l m:List X},RTs l m→m.length=l.length
 | [],[],_=>rfl
 | i::l,j::m,h=>by simp[RTs.len h.2]
 | [],_::_,h=>h.elim
 | _::_,[],h=>h.elim
theorem RTs.get:∀ {l m:List X}{i:Nat}{x:X},RTs l m→l[i]? = some x→∃ y,m[i]? = some y∧RT x y
 | [],[],i,x,_,h=>by simp at h
 | a::l,b::m,0,x,h,hx=>by
   simp only[List.getElem?_cons_zero,Option.some.injEq]at hx
   subst hx
   exact⟨b,rfl,h.1⟩
 | a::l,b::m,i+1,x,h,hx=>by
   simp only[List.getElem?_cons_succ]at hx ⊢
   exact RTs.get h.2 hx
 | [],_::_,_,_,h,_=>h.elim
 | _::_,[],_,_,h,_=>h.elim
theorem a2l:∀ (l:List X) (m i c:Nat),i+l.length≤m→(X.nrms l m i c).2.1=[]∧RTs l (X.nrms l m i c).1
 | [],m,i,c,_=>⟨rfl,trivial⟩
 | x::l,m,i,c,h=>by
   simp only[List.length_cons]at h
   have hc:¬(m≤i∧(x.nrm c).1.atom=false):=by omega
   obtain⟨h1,h2⟩:=a2l l m (i+1) (x.nrm c).2 (by omega)
   rw[X.nrms,if_neg hc]
   exact⟨h1,⟨c,rfl⟩,h2⟩
theorem aBP {k:Int}{t:Str}{ns:List Str}{a:List X}{c:Nat}(h:must k t=none):∃ a',((X.mk k t ns a).nrm c).1= .mk k t ns a'∧RTs a a':=by
 rw[X.nrm,h]
 simp only[Option.getD_none]
 obtain⟨h1,h2⟩:=a2l a a.length 0 c (by omega)
 rw[h1]
 exact⟨_,rfl,h2⟩
/-! ### What stands for what -/
def EnvN (r:List Nat) (env env':Env):Prop:=∀ t,¬aBn t→(∀ p,env.find? (fun p=>p.1==t)=some p→∃ p',env'.find? (fun p=>p.1==t)=some p'∧r[p.2]? = some p'.2)∧(env.find? (fun p=>p.1==t)=none→env'.find? (fun p=>p.1==t)=none)
def LisN (r:List Nat):List Nat→List Nat→Prop
 | [],[]=>True
 | i::l,j::m=>r[i]? = some j∧LisN r l m
 | _,_=>False
def ValN (r:List Nat):V→V→Prop
 | .atom k t,v=>v= .atom k t
 | .pair a b,v=>∃ a' b',v= .pair a' b'∧r[a]? = some a'∧r[b]? = some b'
 | .fn (.mk k t ns a) env g,v=>∃ a' env' g',v= .fn (.mk k t ns a') env' g'∧RTs a a'∧cls a∧EnvN r env env'∧LisN r g g'
def CellN (r:List Nat):C→C→Prop
 | .wait e env,c=>∃ e' env',c= .wait e' env'∧RT e e'∧cl e∧EnvN r env env'
 | .busy e env,c=>∃ e' env',c= .busy e' env'∧RT e e'∧cl e∧EnvN r env env'
 | .done v,c=>∃ v',c= .done v'∧ValN r v v'
structure StN (M:Nat) (cs:List C) (r:List Nat) (s s':S):Prop where
 len:r.length=s.cells.length
 nodup:r.Nodup
 low:∀ j∈r,j<s'.cells.length
 cells:∀ (i j:Nat) (c:C),r[i]? = some j→s.cells[i]? = some c→∃ c',s'.cells[j]? = some c'∧CellN r c c'
 big:M≤s'.cells.length
 kept:∀ j,j<M→j∉r→s'.cells[j]? = cs[j]?
def NF {α:Type}:O α→Prop
 | .val _ _=>False
 | .stop k _ _=>k=6
def OutN (M:Nat) (cs:List C) (r:List Nat) {α:Type}(A:List Nat→α→α→Prop):O α→O α→Prop
 | .val v s,o=>∃ x v' s',o= .val v' s'∧(∀ j∈x,M≤j)∧A (r++x) v v'∧StN M cs (r++x) s s'
 | .stop k t s,o=>∃ s',o= .stop k t s'
theorem u6 {r x:List Nat}{i j:Nat}(h:r[i]? = some j):(r++x)[i]? = some j:=by
 rw[List.getElem?_append_left (List.getElem?_eq_some_iff.1 h).1];exact h
theorem EnvN.more {r x:List Nat}{env env':Env}(h:EnvN r env env'):EnvN (r++x) env env':=fun t ht=>⟨fun p hp=>by
 obtain⟨p',h1,h2⟩:=(h t ht).1 p hp
 exact⟨p',h1,u6 h2⟩,(h t ht).2⟩
theorem LisN.more {r x:List Nat}:∀ {l m:List Nat},LisN r l m→LisN (r++x) l m
 | [],[],_=>trivial
 | i::l,j::m,h=>⟨u6 h.1,LisN.more h.2⟩
 | [],_::_,h=>h.elim
 | _::_,[],h=>h.elim
theorem LisN.len {r:List Nat}:∀ {l m:List Nat},LisN r l m→m.length=l.length
 | [],[],_=>rfl
 | i::l,j::m,h=>by simp[LisN.len h.2]
 | [],_::_,h=>h.elim
 | _::_,[],h=>h.elim
theorem LisN.append {r:List Nat}:∀ {l m l' m':List Nat},LisN r l m→LisN r l' m'→LisN r (l++l') (m++m')
 | [],[],_,_,_,h=>h
 | i::l,j::m,_,_,h,h'=>⟨h.1,LisN.append h.2 h'⟩
 | [],_::_,_,_,h,_=>h.elim
 | _::_,[],_,_,h,_=>h.elim
theorem LisN.take {r:List Nat}:∀ {l m:List Nat}(n:Nat),LisN r l m→LisN r (l.take n) (m.take n)
 | _,_,0,_=>by simp[LisN]
 | [],[],n+1,_=>by simp[LisN]
 | i::l,j::m,n+1,h=>⟨h.1,LisN.take n h.2⟩
 | [],_::_,_+1,h=>h.elim
 | _::_,[],_+1,h=>h.elim
theorem LisN.drop {r:List Nat}:∀ {l m:List Nat}(n:Nat),LisN r l m→LisN r (l.drop n) (m.drop n)
 | _,_,0,h=>by simpa using h
 | [],[],n+1,_=>by simp[LisN]
 | i::l,j::m,n+1,h=>by simpa using LisN.drop n h.2
 | [],_::_,_+1,h=>h.elim
 | _::_,[],_+1,h=>h.elim
theorem ValN.more {r x:List Nat}{v v':V}(h:ValN r v v'):ValN (r++x) v v':=by
 cases v with
 | atom k t=>exact h
 | pair a b=>obtain⟨a',b',rfl,h1,h2⟩:=h;exact⟨a',b',rfl,u6 h1,u6 h2⟩
 | fn e env g=>
   obtain⟨k,t,ns,a⟩:=e
   obtain⟨a',env',g',rfl,h0,h1,h2,h3⟩:=h
   exact⟨a',env',g',rfl,h0,h1,h2.more,h3.more⟩
theorem CellN.more {r x:List Nat}{c c':C}(h:CellN r c c'):CellN (r++x) c c':=by
 cases c with
 | wait e env=>obtain⟨e',env',rfl,h0,h1,h2⟩:=h;exact⟨e',env',rfl,h0,h1,h2.more⟩
 | busy e env=>obtain⟨e',env',rfl,h0,h1,h2⟩:=h;exact⟨e',env',rfl,h0,h1,h2.more⟩
 | done v=>obtain⟨v',rfl,h1⟩:=h;exact⟨v',rfl,h1.more⟩
theorem ValN.kind {r:List Nat}{v v':V}(h:ValN r v v'):v'.kind=v.kind∧v'.text=v.text:=by
 cases v with
 | atom k t=>rw[h];exact⟨rfl,rfl⟩
 | pair a b=>obtain⟨a',b',rfl,_⟩:=h;exact⟨rfl,rfl⟩
 | fn e env g=>obtain⟨k,t,ns,a⟩:=e;obtain⟨_,env',g',rfl,_⟩:=h;exact⟨rfl,rfl⟩
theorem StN.app {M:Nat}{cs:List C}{r:List Nat}{s s':S}(h:StN M cs r s s') {q q':List C}(hl:q'.length=q.length)
 (hc:∀ (i:Nat) (c:C),q[i]? = some c→∃ c',q'[i]? = some c'∧CellN (r++List.range' s'.cells.length q.length) c c'):StN M cs (r++List.range' s'.cells.length q.length) (s.more q) (s'.more q') where
 len:=by simp[S.more,h.len]
 nodup:=by
  rw[List.nodup_append]
  refine⟨h.nodup,List.nodup_range',?_⟩
  intro a ha b hb e
  have:=h.low a ha
  rw[List.mem_range'_1]at hb
  omega
 low:=by
  intro j hj
  simp only[S.more,List.length_append,hl]
  rcases List.mem_append.1 hj with hj|hj
  · have:=h.low j hj;omega
  · rw[List.mem_range'_1]at hj;omega
 cells:=by
  intro i j c0 hj hi
  simp only[S.more]at hi ⊢
  by_cases hil:i<s.cells.length
  · rw[List.getElem?_append_left (by rw[h.len];exact hil)]at hj
    rw[List.getElem?_append_left hil]at hi
    obtain⟨c1,h1,h2⟩:=h.cells i j c0 hj hi
    exact⟨c1,by rw[List.getElem?_append_left (List.getElem?_eq_some_iff.1 h1).1];exact h1,h2.more⟩
  · rw[List.getElem?_append_right (by rw[h.len];omega),h.len]at hj
    rw[List.getElem?_append_right (by omega)]at hi
    have hxl:i-s.cells.length<q.length:=(List.getElem?_eq_some_iff.1 hi).1
    rw[List.getElem?_range' hxl]at hj
    simp only[Nat.one_mul,Option.some.injEq]at hj
    subst hj
    obtain⟨c',h1,h2⟩:=hc _ _ hi
    refine⟨c',?_,h2⟩
    rw[List.getElem?_append_right (by omega),Nat.add_sub_cancel_left];exact h1
 big:=by simp only[S.more,List.length_append];have:=h.big;omega
 kept:=by
  intro j hj hn
  simp only[S.more]
  have:=h.big
  rw[List.getElem?_append_left (by omega)]
  exact h.kept j hj fun hr=>hn (List.mem_append_left _ hr)
theorem StN.new {M:Nat}{cs:List C}{r:List Nat}{s s':S}{c c':C}(h:StN M cs r s s') (hc:CellN (r++[s'.cells.length]) c c'):StN M cs (r++[s'.cells.length]) (s.new c).2 (s'.new c').2:=by
 refine h.app (q:=[c]) (q':=[c']) rfl fun i c0 hi=> ?_
 have hi0:i=0:=by
  have:=(List.getElem?_eq_some_iff.1 hi).1
  simp at this;omega
 subst hi0
 simp only[List.getElem?_cons_zero,Option.some.injEq]at hi
 subst hi
 exact⟨c',rfl,hc⟩
theorem StN.set {M:Nat}{cs:List C}{r:List Nat}{i j:Nat}{s s':S}{c c':C}(h:StN M cs r s s') (hj:r[i]? = some j) (hc:CellN r c c'):StN M cs r (s.set i c) (s'.set j c') where
 len:=by simp[S.set,h.len]
 nodup:=h.nodup
 low:=by simpa[S.set]using h.low
 cells:=by
  intro a b c0 hb ha
  simp only[S.set]at ha ⊢
  rw[List.getElem?_set]at ha
  by_cases hai:i=a
  · subst hai
    rw[hj]at hb
    simp only[Option.some.injEq]at hb
    subst hb
    have hjl:j<s'.cells.length:=h.low j (List.mem_of_getElem? hj)
    rw[if_pos rfl]at ha
    split at ha
    · simp only[Option.some.injEq]at ha
      subst ha
      exact⟨c',by simp[hjl],hc⟩
    · cases ha
  · rw[if_neg hai]at ha
    obtain⟨c1,h1,h2⟩:=h.cells a b c0 hb ha
    have hne:j≠b:=by
     rintro rfl
     exact hai ((List.getElem?_inj (List.getElem?_eq_some_iff.1 hj).1 h.nodup).1 (hj.trans hb.symm))
    exact⟨c1,by rw[List.getElem?_set_ne hne];exact h1,h2⟩
 big:=by simpa[S.set]using h.big
 kept:=by
  intro a ha hn
  simp only[S.set]
  have hne:j≠a:=by
   rintro rfl
   exact hn (List.mem_of_getElem? hj)
  rw[List.getElem?_set_ne hne]
  exact h.kept a ha hn
theorem StN.tick {M:Nat}{cs:List C}{r:List Nat}{s s':S}(h:StN M cs r s s'):StN M cs r s.tick s'.tick:=⟨h.len,h.nodup,h.low,h.cells,h.big,h.kept⟩
theorem StN.used {M:Nat}{cs:List C}{r:List Nat}{s s':S}(h:StN M cs r s s'):StN M cs r s.used s'.used:=⟨h.len,h.nodup,h.low,h.cells,h.big,h.kept⟩
theorem EnvN.cons {r:List Nat}{env env':Env}{n:Str}{i j:Nat}(h:EnvN r env env') (hj:r[i]? = some j):EnvN r ((n,i)::env) ((n,j)::env'):=by
 intro t ht
 by_cases hn:(n==t)=true
 · refine⟨fun p hp=> ?_,fun hp=> ?_⟩
   · rw[List.find?_cons,hn]at hp
     simp only[Option.some.injEq]at hp
     subst hp
     exact⟨(n,j),by rw[List.find?_cons,hn],hj⟩
   · rw[List.find?_cons,hn]at hp;cases hp
 · have hn:(n==t)=false:=by simpa using hn
   have e1:((n,i)::env).find? (fun p=>p.1==t)=env.find? (fun p=>p.1==t):=by rw[List.find?_cons,hn]
   have e2:((n,j)::env').find? (fun p=>p.1==t)=env'.find? (fun p=>p.1==t):=by rw[List.find?_cons,hn]
   rw[e1,e2];exact h t ht
theorem EnvN.pct {r:List Nat}{env env':Env}{n:Str}{j:Nat}(h:EnvN r env env') (hn:aBn n):EnvN r env ((n,j)::env'):=by
 intro t ht
 have hn:(n==t)=false:=by
  simp only[beq_eq_false_iff_ne,ne_eq]
  rintro rfl
  exact ht hn
 have e2:((n,j)::env').find? (fun p=>p.1==t)=env'.find? (fun p=>p.1==t):=by rw[List.find?_cons,hn]
 rw[e2];exact h t ht
theorem EnvN.zip {r:List Nat}:∀ {ns:List Str}{g g':List Nat}{env env':Env},EnvN r env env'→LisN r g g'→EnvN r ((ns.zip g).reverse++env) ((ns.zip g').reverse++env')
 | [],g,g',env,env',h,_=>by simpa using h
 | n::ns,[],[],env,env',h,_=>by simpa using h
 | n::ns,i::g,j::g',env,env',h,hl=>by
   simp only[List.zip_cons_cons,List.reverse_cons,List.append_assoc,List.singleton_append]
   exact EnvN.zip (h.cons hl.1) hl.2
 | n::ns,[],_::_,env,env',h,hl=>hl.elim
 | n::ns,_::_,[],env,env',h,hl=>hl.elim
/-! ### Cells that are found or made -/
def Early (r:List Nat) (env env':Env) (s':S):List X→List X→List Nat→Prop
 | [],[],J=>J=[]
 | x::l,x'::l',J=>(x.atom=true∧RT x x'∧Early r env env' s' l l' J)∨(x.atom=false∧∃ j J' n y env2,J=j::J'∧x'=varX n∧(∃ m,env'.find? (fun p=>p.1==n)=some (m,j))∧s'.cells[j]? = some (.wait y env2)∧RT x y∧EnvN r env env2∧Early r env env' s' l l' J')
 | _,_,_=>False
theorem Early.keep {r x:List Nat}{env env':Env}{s s':S}:∀ {l l':List X}{J:List Nat},(∀ j∈J,∀ c,s.cells[j]? = some c→s'.cells[j]? = some c)→Early r env env' s l l' J→Early (r++x) env env' s' l l' J
 | [],[],J,_,h=>h
 | a::l,a'::l',J,hs,h=>by
   rcases h with⟨h1,h2,h3⟩|⟨h1,j,J',n,y,env2,rfl,h3,h4,h5,h6,h7,h8⟩
   · exact .inl ⟨h1,h2,h3.keep hs⟩
   · exact .inr ⟨h1,j,J',n,y,env2,rfl,h3,h4,hs j (by simp) _ h5,h6,h7.more,h8.keep fun j hj=>hs j (by simp[hj])⟩
 | [],_::_,_,_,h=>h.elim
 | _::_,[],_,_,h=>h.elim
end Go.Lite.Nor
/-
  A term, its arguments by name, comes to what the term comes to: eval, force, apply, print.
-/
namespace Go.Lite.Nor
open Go.Lite
theorem OutN.more {M:Nat}{cs:List C}{r x:List Nat}{α:Type}{A:List Nat→α→α→Prop}{o o':O α}(h:OutN M cs (r++x) A o o') (hx:∀ j∈x,M≤j):OutN M cs r A o o':=by
 cases o with
 | val v s=>
   obtain⟨y,v',s',h1,h2,h3,h4⟩:=h
   rw[List.append_assoc]at h3 h4
   exact⟨x++y,v',s',h1,fun j hj=>(List.mem_append.1 hj).elim (hx j) (h2 j),h3,h4⟩
 | stop k t s=>exact h
def Both (M:Nat) (cs:List C) (r:List Nat) {α:Type}(A:List Nat→α→α→Prop) (o o':O α):Prop:=NF o∨NF o'∨OutN M cs r A o o'
theorem Both.of {M:Nat}{cs:List C}{r:List Nat}{α:Type}{A:List Nat→α→α→Prop}{o o':O α}(h:OutN M cs r A o o'):Both M cs r A o o':= .inr (.inr h)
theorem Both.more {M:Nat}{cs:List C}{r x:List Nat}{α:Type}{A:List Nat→α→α→Prop}{o o':O α}(h:Both M cs (r++x) A o o') (hx:∀ j∈x,M≤j):Both M cs r A o o':=by
 rcases h with h|h|h
 · exact .inl h
 · exact .inr (.inl h)
 · exact .inr (.inr (h.more hx))
/-! ### Names that wait -/
/-! ### Runs -/
theorem RT.none {k:Int}{t:Str}{ns:List Str}{a:List X}{e':X}(h:RT (.mk k t ns a) e') (hm:must k t=none):∃ a',e'= .mk k t ns a'∧RTs a a':=by
 obtain⟨c,rfl⟩:=h
 exact aBP hm
/-! ### Prints -/
end Go.Lite.Nor
/-
  The laws' ground: natural.Eval stands for its Lean function.
-/
namespace Go.Lite
open Go Go.Proofs
noncomputable def own6 (f:FuncId):Option (List AV→Heap→R):=bif Nat.beq f 12 then some nY else own5 f
noncomputable def P6:Prg:=qG Tryz.prog own6 aDN
theorem cm7 {n:Nat}{caps xs:List AV}{H:Heap}:qK (qB P6 n) (.func 7 caps) xs H=qY P6 n 7 (qI shutV (xs++caps) H):=qJ rfl rfl
theorem cm8 {n:Nat}{caps xs:List AV}{H:Heap}:qK (qB P6 n) (.func 8 caps) xs H=qY P6 n 8 (qI shutV (xs++caps) H):=qJ rfl rfl
theorem cm9 {n:Nat}{caps xs:List AV}{H:Heap}:qK (qB P6 n) (.func 9 caps) xs H=qY P6 n 9 (qI shutV (xs++caps) H):=qJ rfl rfl
theorem cm10 {n:Nat}{caps xs:List AV}{H:Heap}:qK (qB P6 n) (.func 10 caps) xs H=qY P6 n 10 (qI shutV (xs++caps) H):=qJ rfl rfl
theorem cm11 {n:Nat}{caps xs:List AV}{H:Heap}:qK (qB P6 n) (.func 11 caps) xs H=qY P6 n 11 (qI shutV (xs++caps) H):=qJ rfl rfl
theorem cm12 {n:Nat}{caps xs:List AV}{H:Heap}:qK (qB P6 n) (.func 12 caps) xs H=qB P6 n 12 (xs++caps) H:=rfl
theorem cm13 {n:Nat}{caps xs:List AV}{H:Heap}:qK (qB P6 n) (.func 13 caps) xs H=qY P6 n 13 (qI shutV (xs++caps) H):=qJ rfl rfl
theorem cm18 {n:Nat}{caps xs:List AV}{H:Heap}:qK (qB P6 n) (.func 18 caps) xs H=qY P6 n 18 (qI shutV (xs++caps) H):=qJ rfl rfl
theorem cm19 {n:Nat}{caps xs:List AV}{H:Heap}:qK (qB P6 n) (.func 19 caps) xs H=qY P6 n 19 (qI shutV (xs++caps) H):=qJ rfl rfl
theorem cm20 {n:Nat}{caps xs:List AV}{H:Heap}:qK (qB P6 n) (.func 20 caps) xs H=qY P6 n 20 (qI shutV (xs++caps) H):=qJ rfl rfl
theorem cm21 {n:Nat}{caps xs:List AV}{H:Heap}:qK (qB P6 n) (.func 21 caps) xs H=pG P6 n 21 (qI kF (xs++caps) H):=dI rfl rfl
theorem cm22 {n:Nat}{caps xs:List AV}{H:Heap}:qK (qB P6 n) (.func 22 caps) xs H=pG P6 n 22 (qI kF (xs++caps) H):=dI rfl rfl
theorem cm37 {n:Nat}{caps xs:List AV}{H:Heap}:qK (qB P6 n) (.func 37 caps) xs H=qY P6 n 37 (qI shutV (xs++caps) H):=qJ rfl rfl
theorem cm40 {n:Nat}{caps xs:List AV}{H:Heap}:qK (qB P6 n) (.func 40 caps) xs H=qY P6 n 40 (qI shutV (xs++caps) H):=qJ rfl rfl
set_option linter.defProp false in
def CM:=(And.intro (And.intro (And.intro @cm7 (And.intro @cm8 @cm9)) (And.intro (And.intro @cm10 @cm11) (And.intro @cm12 @cm13))) (And.intro (And.intro @cm18 (And.intro @cm19 @cm20)) (And.intro (And.intro @cm21 @cm22) (And.intro @cm37 @cm40))))
theorem p56:PrgLe P5 P6 where
 code:=rfl
 mode:=rfl
 none:=fun f h=>by
  show own6 f=none
  have h:own5 f=none:=h
  unfold own6
  cases hb:Nat.beq f 12 with
  | false=>exact h
  | true=>
    unfold own5 at h
    rw[hb]at h;cases h
 some:=fun f g h=>by
  have h:own5 f=some g:=h
  cases hb:Nat.beq f 12 with
  | false=>exact⟨g,by show own6 f=some g;unfold own6;rw[hb];exact h,fun _ _=>RLe.refl⟩
  | true=>
    unfold own5 at h
    rw[hb]at h
    simp only[cond_true,Option.some.injEq]at h
    refine⟨nY,by show own6 f=some nY;unfold own6;rw[hb];rfl,fun xs H=> ?_⟩
    rw[←h];exact RLe.none
theorem Ret.up {f:FuncId}{xs:List AV}{v:AV}(r:Ret P5 f xs v):Ret P6 f xs v:=Ret.lift p56 r
noncomputable def a1q (A:Nat→R):R:=open Classical in if h:∃ o,Ev fun n=>A n=some o then some h.choose else none
theorem aF7 (a b:Int) (hb:b≠0):Ret P6 11 [.int .i64 a,.int .i64 b] (.int .i64 (within a b)):=by
 refine Ret.of rfl (aEa _ _) rfl rfl (fun H=>by simp -implicitDefEqProofs only[↓qA,ZZ,seval]) (Ev.of fun n H=> ?_)
 unfold within
 by_cases h:a.tmod b<0
 all_goals simp -implicitDefEqProofs only[c11,↓qA,ZZ,Nat.reduceBEq,reduceIte,Nat.reduceAdd,Nat.reduceLeDiff,Nat.reduceEqDiff,Nat.reduceBneDiff,if_neg,if_pos,hb,h,Ends,qC]
 all_goals exact⟨_,rfl⟩
noncomputable def a4V (v:AV) (z:Int) (H:Heap):R:=a1q fun k=>opened H (vV (runE (qB P5 k) k [v,.lst 0 0 true [],.int .i64 z] H.bare))
theorem a2Q {k:Nat}{x:AV}{z:Int}{H:Heap}:wM k [x,.nils,.int .i64 z] H=(shutV x H).bind fun q=>opened q.2 (vV (runE (qB P5 k) k [q.1,.lst 0 0 true [],.int .i64 z] q.2.bare)):=by
 unfold wM
 rw[zK]
 cases shutV x H with
 | none=>rfl
 | some q=>
   obtain⟨v,H1⟩:=q
   simp -implicitDefEqProofs only[zK,kU,↓qA,ZZ,seval,Option.bind_some,List.length_cons,List.length_nil]
theorem a5f:a1q (fun _=>none)=none:=by
 unfold a1q
 split
 · rename_i h
   obtain⟨N,hN⟩:=h.choose_spec
   exact absurd (hN N (Nat.le_refl _)) (by simp)
 · rfl
theorem a8m {n:Nat}{x:AV}{z:Int}{H:Heap}:qB P6 (n+1) 12 [x,.nils,.int .i64 z] H=(shutV x H).bind fun q=>a4V q.1 z q.2:=by
 rw[vR (P:=P6) (g:=nY) rfl]
 show a1q (fun n=>wM n [x,.nils,.int .i64 z] H)=_
 rw[show(fun n=>wM n [x,.nils,.int .i64 z] H)=fun n=>(shutV x H).bind fun q=>opened q.2 (vV (runE (qB P5 n) n [q.1,.lst 0 0 true [],.int .i64 z] q.2.bare))from funext fun n=>a2Q]
 cases shutV x H with
 | none=>exact a5f
 | some q=>rfl
theorem a5M {e:X}(ht:e.tame) (F:Nat) (z:Int) (hz:z=F) (hF:F≤1099511627776) {m:Nat}{o:O Str}(h:outA m e [] F=some o) (H:Heap):a4V e.v z H=some (.ret (resV (resO o)),H):=by
 subst hz
 rw[←aFk e ht F hF h H]
 show _=a1q (fun n=>wM n [e.v,.nils,.int .i64 F] H)
 have hs:shutV e.v H=some (e.v,H):=by
  obtain⟨k,t,ns,l⟩:=e
  rw[X.v_mk]
  simp -implicitDefEqProofs only[XS,↓qA,ZZ,seval]
 rw[show(fun n=>wM n [e.v,.nils,.int .i64 F] H)=fun n=>opened H (vV (runE (qB P5 n) n [e.v,.lst 0 0 true [],.int .i64 F] H.bare))from funext fun n=>by rw[a2Q,hs];rfl]
 rfl
theorem a7X (o:O Str):resV (resO o)= .tuple [.agg [.int .i64 o.kind,.str o.txt,.int .i64 0],.int .i64 o.st.steps,.int .i64 o.st.uses]:=by
 cases o<;>rfl
def fiveX:X:= .mk 1 [53] [] []
theorem aBc:outA 3 fiveX [] 1=some (.val [53] ⟨[.done (.atom 3 yK)],1,0⟩):=by
 unfold outA
 simp[fiveX,a0U,a5q,S.tick,xY,O.bind,tO,sayA,zI,S.new]
theorem known11:Ret P6 7 [] (.bool true):=by
 have ht:fiveX.tame:=by
  rw[fiveX,X.tame]
  refine⟨⟨⟨by simp,by simp⟩,fun _=>⟨5,by decide,?_⟩⟩,by simp,by simp,trivial⟩
  rw[show(5:Int)=((5:Nat):Int)from rfl,vB,zL (by omega)]
 have eV:=a5M ht 1 1 rfl (by omega) aBc
 rw[fiveX,X.v_mk,a7X]at eV
 simp only[O.kind,O.txt,O.st,show((1:Nat):Int)=1 from rfl,show((0:Nat):Int)=0 from rfl,show qE []= .lst 0 0 true []from rfl,show vXs []= .lst 0 0 true []from rfl]at eV
 refine Ret.of rfl (aFQ _ _) rfl rfl (fun H=>by simp -implicitDefEqProofs only[↓qA,ZZ,seval]) ((Ev.ge 1).mono fun n hn H=> ?_)
 obtain⟨n,rfl⟩:∃ k,n=k+1:=⟨n-1,by omega⟩
 simp -implicitDefEqProofs only[c7,↓qA,ZZ,seval,CM,a8m,eV,Ends,qC]
 exact⟨_,rfl⟩
end Go.Lite
/-
  What laws ask of terms that were made.
-/
namespace Go.Lite
open Go Go.Proofs
structure Made (e:X):Prop where
 wf:e.wf
 tame:e.tame
 no:∀ w,(∀ j,vdot j≠w)→e.no w
theorem a7E {e:X}{m':Nat}(h:e.good [] 0 m') (hm:m'<100):Made e:=
 ⟨a5D e (sH e [] 0 m' h),a9o e [] 0 m' h (by omega) (fun s hs=>by cases hs),fun w hw=>aCC w hw e [] 0 m' h fun s hs=>by cases hs⟩
theorem a88 {e:X}(ht:e.tame) (F:Nat) (z:Int) (hz:z=F) (hF:F≤1099511627776) {m:Nat}{o:O Str}(h:outA m e [] F=some o) (H:Heap):a4V e.v z H=some (.ret (.tuple [.agg [.int .i64 o.kind,.str o.txt,.int .i64 0],.int .i64 o.st.steps,.int .i64 o.st.uses]),H):=by
 rw[a5M ht F z hz hF h,a7X]
end Go.Lite
/-
  A term of the maker's, its arguments by name: it is well formed, small.
-/
namespace Go.Lite
open Go Go.Proofs
theorem aGj:∀ e:X,e.right→(∀ j,e.no (pct j))→Nor.cl e:=X.indA fun k t ns l ih hr hn=>by
 obtain⟨h1,_,h3⟩:=hr
 rw[Nor.cl]
 refine⟨fun h5 ⟨j,e⟩=>(hn j).1 h5 e,fun h10 hc=> ?_,(Nor.cls_iff l).2 fun x hx=>ih x hx ((gD l).1 h3 x hx) fun j=>(X.nos_iff _ l).1 (hn j).2 x hx⟩
 subst h10 hc
 have ha:jP yI=2:=by decide
 rcases h1 with⟨h,_⟩|⟨h,_⟩|⟨h,_⟩|⟨h,_⟩|⟨h,_⟩|⟨h,_⟩|⟨h,_⟩|⟨h,_⟩|⟨h,_⟩|⟨_,_,h,_⟩
 all_goals first
  | (exact absurd h (by decide))
  | (rw[ha]at h;omega)
theorem a9R (j:Nat) (hj:j≤1000):(pct j).length≤1000∧∀ c∈pct j,c<256:=by
 have:=uD j
 refine⟨by rw[pct,List.length_append];simp only[List.length_cons,List.length_nil];omega,?_⟩
 unfold pct numT
 intro c hc
 rcases List.mem_append.1 hc with hc|hc
 · simp only[List.mem_cons,List.not_mem_nil,or_false]at hc
   omega
 · by_cases h1:j<10<;>by_cases h2:j<100<;>simp only[h1,h2,if_true,if_false,List.mem_cons,List.not_mem_nil,or_false]at hc<;>omega
theorem a8N (j:Nat) (hj:j≤1000):(varX (pct j)).tame:=⟨⟨a9R j hj,fun h=>absurd h (by decide)⟩,by simp,by simp,trivial⟩
theorem a6Z {n:Str}{x y:X}(hx:x.tame) (hy:y.tame):(bQ n x y).tame:=⟨⟨⟨by simp,by simp⟩,fun h=>absurd h (by decide)⟩,by simp,by simp,hx,hy,trivial⟩
theorem uO {b:X}(hb:b.tame):∀ (L:List (Str×X)),(∀ p∈L,p.2.tame)→(zH L b).tame
 | [],_=>hb
 | p::L,h=>a6Z (h p (by simp)) (uO hb L fun q hq=>h q (by simp[hq]))
theorem a0w:∀ (l:List X),(∀ x∈l,x.tame→∀ c,(x.nrm c).2≤1000→(x.nrm c).1.tame)→X.tames l→∀ m i c,(X.nrms l m i c).2.2≤1000→X.tames (X.nrms l m i c).1∧∀ p∈(X.nrms l m i c).2.1,p.2.tame
 | [],_,_,m,i,c,_=>⟨trivial,by simp[X.nrms]⟩
 | x :: l, h, ht, m, i, c, hc => by
   rw[X.nrms]at hc ⊢
   by_cases hb:m≤i∧(x.nrm c).1.atom=false
   · rw[if_pos hb]at hc ⊢
     simp only[]at hc ⊢
     have h1:=a3V l m (i+1) ((x.nrm c).2+1)
     obtain⟨g1,g2⟩:=a0w l (fun y hy=>h y (by simp[hy])) ht.2 m (i+1) _ hc
     refine⟨⟨a8N _ (by omega),g1⟩,fun p hp=> ?_⟩
     rcases List.mem_cons.1 hp with rfl|hp
     · exact h x (by simp) ht.1 c (by omega)
     · exact g2 p hp
   · rw[if_neg hb]at hc ⊢
     simp only[]at hc ⊢
     have h1:=a3V l m (i+1) (x.nrm c).2
     obtain⟨g1,g2⟩:=a0w l (fun y hy=>h y (by simp[hy])) ht.2 m (i+1) _ hc
     exact⟨⟨h x (by simp) ht.1 c (by omega),g1⟩,g2⟩
theorem a9V:∀ x:X,x.tame→∀ c,(x.nrm c).2≤1000→(x.nrm c).1.tame:=X.indA fun k t ns a ih ht c hc=>by
 rw[X.tame]at ht
 obtain⟨t0,t1,t2,t3⟩:=ht
 rw[X.nrm]at hc ⊢
 obtain⟨g1,g2⟩:=a0w a ih t3 _ _ _ hc
 refine uO ?_ _ g2
 rw[X.tame,a4Y]
 exact⟨t0,t1,t2,g1⟩
structure Normed (e:X):Prop where
 fit:e.fit
 cnt:(e.nrm 0).2<100
 cl:Nor.cl e
 wf:(e.nrm 0).1.wf
 tame:(e.nrm 0).1.tame
theorem aBf (i j:Nat):vdot i≠pct j:=fun e=>by
 have:=congrArg (fun l:Str=>l[0]?) e
 simp[vdot,pct]at this
theorem a95 {e:X}{m':Nat}(h:e.good [] 0 m') (h2:e.nodes≤41) (hm:m'<100):Normed e:=by
 have me:=a7E h hm
 have hr:=sH e [] 0 m' h
 have ht:=aAo e
 have hc:(e.nrm 0).2<100:=by rw[a0l];omega
 exact⟨aBY e [] 0 m' h (by omega),hc,aGj e hr fun j=>me.no _ fun i=>aBf i j,a5D _ (a3d e hr 0),a9V e me.tame 0 (by omega)⟩
end Go.Lite
/-
  A term of the maker's: there is room for it in the reference's machine.
-/
namespace Go.Lite
open Go Go.Proofs
theorem aAa (l:List X) (h:∀ x∈l,x.nn=x.bnd.length):X.nns l=(X.bnds l).length:=by
 induction l with
 | nil=>rfl
 | cons x l ih=>rw[X.nns,X.bnds,List.length_append,h x (by simp),ih fun y hy=>h y (by simp[hy])]
theorem a6m:∀ x:X,x.nn=x.bnd.length:=X.indA fun k t ns l ih=>by
 rw[X.nn,X.bnd,List.length_append,aAa l ih]
theorem aDW:∀ e:X,e.right→e.uni:=X.indA fun k t ns l ih hr=>by
 obtain⟨h1,_,h3⟩:=hr
 rw[X.uni]
 refine⟨fun h10 hl=> ?_,(X.unis_iff l).2 fun x hx=>ih x hx ((gD l).1 h3 x hx)⟩
 subst h10
 have ha:jP t=1:=by
  rcases h1 with⟨h,_⟩|⟨h,_⟩|⟨h,_⟩|⟨h,_⟩|⟨h,_⟩|⟨h,_⟩|⟨h,_⟩|⟨h,_⟩|⟨h,_⟩|⟨_,_,h,_⟩
  all_goals first
   | (exact absurd h (by decide))
   | (rw[hl]at h;exact h.symm)
 refine⟨?_,?_,?_⟩<;>
 · rintro rfl
   exact absurd ha (by decide)
structure Roomy (e:X):Prop where
 wf:e.wf
 tame:e.tame
 room:Room e [(kQ,0)]
theorem a5N {e:X}(hw:e.wf) (ht:e.tame) (hr:e.right) (hn:e.nn≤1000):Roomy e:=⟨hw,ht,ht,by simp;omega,aDW e hr⟩
theorem a9N (l:List Raw) (hl:l.length≤9223372036854775807) (hf:Raw.fits l) (h:vE 13 l≤40):∃ e:X,Made e∧Normed e∧Roomy e∧Roomy (e.nrm 0).1∧Ret P6 9 [kE l] e.v:=by
 obtain⟨e,m',h1,h2,h3,h4⟩:=aFl l hl hf (by rw[←a7Y 13 l h];exact h)
 have me:=a7E h1 h3
 have ne:=a95 h1 h2 h3
 have hr:=sH e [] 0 m' h1
 have hb:=(dA e [] 0 m' h1).2
 have hn:e.nn≤100:=by rw[a6m,hb,xR];omega
 have hn2:(e.nrm 0).1.nn≤1000:=by
  have hp:=(aDa e 0).length_eq
  have hc:=ne.cnt
  rw[a0l]at hc
  rw[a6m,hp,List.length_append,←a6m,pcts,List.length_map,List.length_range']
  omega
 exact⟨e,me,ne,a5N me.wf me.tame hr (by omega),a5N ne.wf ne.tame (a3d e hr 0) hn2,h4.up⟩
theorem a8t {e:X}(r:Roomy e) (F:Nat) (hF:F≤1099511627776):∃ o:O Str,outA (deep F) e [] F=some o∧(∀ H,a4V e.v F H=some (.ret (.tuple [.agg [.int .i64 o.kind,.str o.txt,.int .i64 0],.int .i64 o.st.steps,.int .i64 o.st.uses]),H))∧Ret P6 13 [e.v,.lst 0 0 true [],.int .i64 F] (.tuple [.agg [.int .i64 o.kind,.str o.txt,.int .i64 0],.int .i64 o.st.steps,.int .i64 o.st.uses]):=by
 obtain⟨o,ho,_⟩:=a6q e r.wf [] F (deep F) (Nat.le_refl _)
 exact⟨o,ho,fun H=>a88 r.tame F F rfl hF ho H,(aEK e r.room F hF [] (fun t h=>by cases h) (by simp) ho).up⟩
end Go.Lite
/-
  A law's call, from the interpreter's run; a row that lists variables, of which one is read; raw terms as they stand in the world.
-/
namespace Go.Lite
open Go Go.Proofs Go.RowKit
theorem a3D {H:Type}{enc:TypeId×Value→H}{a:Assume}{C:Checked}{os:Os}{f:FuncId}{fn:Func}{s:ChangeSpec}{conds:List PathCond}{apart fresh handsOn again:Bool}{X:World→Array Value→Prop}
 (own:ownKnob C.prog.godebug=none) (started:os.Started) (noInit:C.prog.inits.idxOf? f=none) (hfn:C.prog.funcs[f]? = some fn)
 (witness:∃ (w:World) (tape:Tape) (i:Input),w.os=os∧(w.forCall tape i).Shaped C.prog∧i.vars=[]∧Input.okWide C.prog (w.forCall tape i) .any w.heap.size f i∧
   ((s.pre enc C.prog fn conds apart (w.forCall tape i).memory i.args∧X (w.forCall tape i).memory i.args)∧sizedMet enc C.prog fn (OpenSpec.ofChange s) apart (w.forCall tape i).memory i.args)∧a.holds C.prog (lone (Frame.enter C.prog f i.args .normal) [] (w.forCall tape i)))
 (contract:∀ (W:World) (base:Nat) (args:Array Value) (ds gs:List (DataW H)) (before:List MemPlace),
   (∀ (j:Nat) t v,fn.params[j]? = some t→args[j]? = some v→Value.okWide C.prog W .any base t v)→
   DataW.Whole enc C.prog fn.params.toList s.vars apart W args.toList ds gs before→
   conds.all (PathCond.test C.prog ⟨fn.params.toList,ds,s.plain.varTypes C.prog,gs⟩)=true→
   (DataW.weightsEach C.prog (fn.params.toList++s.plain.varTypes C.prog) (ds++gs)).all (· ≤ reachBytes)=true→
   W.ShapedOpen C.prog→X W.memory args→
   a.holds C.prog (lone (Frame.enter C.prog f args .normal) [] W)→
   Calls C.prog f args W fun e W'=>∃ v,e= .returned v∧s.post enc C.prog fn apart fresh handsOn again W args v W'):
 ReturnsInHanded a C os f .any (fun w args=>(s.pre enc C.prog fn conds apart w args∧X w args)∧sizedMet enc C.prog fn (OpenSpec.ofChange s) apart w args) (s.post enc C.prog fn apart fresh handsOn again):=by
 refine returnsInHanded_of_calls own started noInit witness ?_
 intro w tape i _ hsh _ hok hpre hholds
 obtain⟨_,_,_,fn',hfn',_,_,_,_,hval⟩:=hok
 have e:fn'=fn:=Option.some.inj (hfn'.symm.trans hfn)
 subst e
 obtain⟨⟨⟨ds,gs,before,hw,hc⟩,hx⟩,hz⟩:=hpre
 have hw':=DataW.Whole.of_heap (w':=w.forCall tape i) (by rfl) hw
 refine(contract (w.forCall tape i) w.heap.size i.args ds gs before hval hw' hc (hz.weights hw) hsh hx hholds).mono fun e W' ⟨v,he,hp⟩=> ?_
 subst he
 exact ChangeSpec.post_blind hp
theorem a4U {W : World} {a b : DataW Unit} (h : laidMet Tryz.prog [("math/bits.deBruijn32tab", a), ("math/bits.deBruijn64tab", b), ("internal/strconv.uint64pow10", Go.Proofs.YtmfdlglhngmacaaGreatDoor.Rows.laid_internal_strconv_uint64pow10)] W.memory) : TabAt W := by
 have h2 := h.filter fun x => x.1 == "internal/strconv.uint64pow10"
 have h3 : laidMet Tryz.prog [("internal/strconv.uint64pow10", Lib.tabData .u64 Lib.pow10Tab)] W.memory := h2
 have h4:=Lib.tabIs_of_head (g:=0) (t:=261) (e:=251) (n:=20) (by kernel_rfl) (by kernel_rfl) (by kernel_rfl) (by kernel_rfl) (by kernel_rfl) (by kernel_rfl) h3
 exact h4
theorem a9p {H:Type}{enc:TypeId×Value→H}{P:Program}{W:World}{sp:Nat→Bool}{held:Bool}{t e:TypeId}{fs:Array Field}(ht:P.underlying t=some (.slice e)) (he:P.underlying e=some (.struct fs)) (hc:P.cellsOf e=3)
 (hf0:∃ f,fs[0]? = some f∧f.offset=0∧P.underlying f.type=some (.int .i64)∧P.cellsOf f.type=1) (hf1:∃ f,fs[1]? = some f∧f.offset=1∧P.underlying f.type=some (.int .i64)∧P.cellsOf f.type=1)
 (hf2:∃ f,fs[2]? = some f∧f.offset=2∧f.type=t∧P.cellsOf f.type=1):
 ∀ (fuel:Nat) (u:Value) (x:DataW H×List MemPlace),DataW.trod enc P W 0 sp held fuel t [u]=some x→
 ∃ l:List Raw,(l.length≤9223372036854775807∧Raw.fits l)∧VRel (nbT W.heap.size) (emb0 W) (kE l) u:=by
 intro fuel
 induction fuel using Nat.strongRecOn with
 | _ fuel ih =>
   intro u x h
   rcases DataW.trod_slice ht h with⟨h1,_⟩|⟨a,len,cap,elems,rest,n,hfu,h1,_,_,hl,hm,hlen,hel,_,_⟩
   · simp only[List.cons.injEq,and_true]at h1
     subst h1
     exact⟨[],⟨by simp,trivial⟩,a2u⟩
   · simp only[List.cons.injEq,and_true]at h1
     subst h1
     rw[hc]at hel
     obtain⟨l,h1,h2,h3⟩:=a9G (W:=W) (g:=Raw.cells) (F:=Raw.fit) (es:=3) (by decide) Raw.cells_len hl fun i hi=>by
      obtain⟨y,hy⟩:∃ y,elems[i]? = some y:=⟨elems[i]'(by omega),List.getElem?_eq_getElem _⟩
      have:=hel i hi
      rw[hy]at this
      obtain⟨cs,hcs,hd⟩:=Option.bind_eq_some_iff.1 this
      obtain⟨xs,m,hm,_,hcl,hxl,hfs⟩:=DataW.trod_struct he hd
      rw[hc]at hcl
      obtain⟨c0,c1,c2,rfl⟩:∃ c0 c1 c2,cs=[c0,c1,c2]:=by
       match cs,hcl with
       | [c0,c1,c2],_=>exact⟨c0,c1,c2,rfl⟩
      obtain⟨f0,g0,o0,u0,z0⟩:=hf0
      obtain⟨f1,g1,o1,u1,z1⟩:=hf1
      obtain⟨f2,g2,o2,u2,z2⟩:=hf2
      have q0:=hfs 0 f0 g0
      have q1:=hfs 1 f1 g1
      have q2:=hfs 2 f2 g2
      have hsz:xs.length=fs.size:=hxl
      have l2:2<fs.size:=(Array.getElem?_eq_some_iff.1 g2).1
      rw[o0,z0,List.getElem?_eq_getElem (by omega)]at q0
      rw[o1,z1,List.getElem?_eq_getElem (by omega)]at q1
      rw[o2,z2,u2,List.getElem?_eq_getElem (by omega)]at q2
      simp only[List.drop_zero,List.take_succ_cons,List.take_zero,List.drop_succ_cons]at q0 q1 q2
      obtain⟨k,hk,_,_⟩:=DataW.trod_int u0 q0
      obtain⟨q,hq,_,_⟩:=DataW.trod_int u1 q1
      obtain⟨l',⟨w1,w2⟩,w3⟩:=ih m (by omega) c2 _ q2
      simp only[List.cons.injEq,and_true]at hk hq
      subst hk;subst hq
      refine⟨_,.mk k q l',hcs,?_,w1,w2⟩
      rw[Raw.cells_mk]
      simp only[VRels,VRel]
      exact⟨_,_,rfl,rfl,_,_,rfl,rfl,_,_,rfl,w3,rfl⟩
     have hmx:maxLen=9223372036854775807:=by decide
     exact⟨l,⟨by omega,(Raw.fits_iff l).2 h3⟩,h2⟩
theorem a7N {nb:NB}(hgl:(Tryz.prog).globals.size≤nb.n) (hT:∀ w,nb.inv w→TabAt w):∀ f g,own5 f=some g→rE Tryz.prog nb f g:=by
 intro f g h
 unfold own5 at h
 cases h0:Nat.beq f 12 with
 | true=>
   rw[h0]at h
   simp only[cond_true,Option.some.injEq]at h
   subst h
   intro xs args ι H w out hh
   cases hh
 | false=>
 rw[h0]at h
 simp only[cond_false]at h
 cases h1:Nat.beq f 95 with
 | true=>
   rw[h1]at h
   simp only[cond_true,Option.some.injEq]at h
   subst h
   rw[Nat.eq_of_beq_eq_true h1]
   refine a5r ?_
   intro t c o h
   simp only[rC,Bool.or_eq_true,Bool.and_eq_true]at h
   rcases h with⟨⟨h1,h2⟩,h3⟩|⟨⟨h1,h2⟩,h3⟩
   · rw[Nat.eq_of_beq_eq_true h1,Nat.eq_of_beq_eq_true h2,Nat.eq_of_beq_eq_true h3]
     exact⟨by decide,by kernel_rfl⟩
   · rw[Nat.eq_of_beq_eq_true h1,Nat.eq_of_beq_eq_true h2,Nat.eq_of_beq_eq_true h3]
     exact⟨by decide,by kernel_rfl⟩
 | false =>
   rw[h1]at h
   simp only[cond_false]at h
   cases h2:Nat.beq f 28 with
   | true=>
     rw[h2]at h
     simp only[cond_true,Option.some.injEq]at h
     subst h
     rw[Nat.eq_of_beq_eq_true h2]
     exact a4F
   | false =>
     rw[h2]at h
     simp only[cond_false]at h
     cases h3:Nat.beq f 124 with
     | true=>
       rw[h3]at h
       simp only[cond_true,Option.some.injEq]at h
       subst h
       rw[Nat.eq_of_beq_eq_true h3]
       exact a5j hgl (by kernel_rfl) (e:=3) (by decide) (fun own mode=>aCY own mode)
     | false=>
       rw[h3]at h
       simp only[cond_false]at h
       cases h4:Nat.beq f 147 with
       | true=>
         rw[h4]at h
         simp only[cond_true,Option.some.injEq]at h
         subst h
         rw[Nat.eq_of_beq_eq_true h4]
         exact a6l hT
       | false=>
         rw[h4]at h
         simp only[cond_false]at h
         cases h5:Nat.beq f 148 with
         | true=>
           rw[h5]at h
           simp only[cond_true,Option.some.injEq]at h
           subst h
           rw[Nat.eq_of_beq_eq_true h5]
           exact a3I
         | false=>rw[h5]at h;cases h
theorem aD3 {nb:NB}(hgl:(Tryz.prog).globals.size≤nb.n) (hT:∀ w,nb.inv w→TabAt w):∀ f g,own6 f=some g→rE Tryz.prog nb f g:=by
 intro f g h
 unfold own6 at h
 cases h0:Nat.beq f 12 with
 | true=>
   rw[h0]at h
   simp only[cond_true,Option.some.injEq]at h
   subst h
   rw[Nat.eq_of_beq_eq_true h0]
   exact aB4 hgl fun n=>kY hgl (by kernel_rfl) (a7N hgl hT) n
 | false=>
   rw[h0]at h
   exact a7N hgl hT f g h
theorem a4z {W:World}(hsh:W.ShapedOpen Tryz.prog) (hT:TabAt W) {f:Nat}{xs:List AV}{args:Array Value}(h:Ret P6 f xs (.bool true)) (hxs:VRels (nbT W.heap.size) (emb0 W) xs args.toList):
 Calls Tryz.prog f args W fun e w'=>e= .returned (.bool true)∧RowKit.Below W.heap.size W w':=by
 obtain⟨N,hN⟩:=h
 have hgl:=a7h hsh
 have hp:0<W.heap.size:=by
  have h1:0<(Tryz.prog).globals.size:=of_decide_eq_true (by kernel_rfl)
  omega
 exact aAr (nb:=nbT W.heap.size) rfl ⟨hp,hT⟩ hgl (by kernel_rfl) (aD3 hgl fun w h=>h.2) (hN N (Nat.le_refl _) gQ) hxs
end Go.Lite
/-
  A world in which the listed variables hold what is listed.
-/
namespace Go.Lite
open Go Go.Proofs Go.RowKit
def a8S {H:Type}:DataW H→Array Value
 | .agg l=>(l.map fun d=>match d with | .lit (.int k n)=>Value.int k n|_=> .bool false).toArray
 | _=> #[]
noncomputable def a2T (P:Program) (os:Os) (l:List (Nat×DataW Unit)):World:=
 let w0:=World.holding P os ⟨#[],#[],[]⟩
 { w0 with heap:=l.foldl (fun h p=>h.modify p.1 fun
    | .cells _ t frozen=> .cells (a8S p.2) t frozen
    | o=>o) w0.heap }
end Go.Lite
