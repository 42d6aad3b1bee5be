/-
  Several texts in one: QMach, QSmall, QKept, QForce, QNums, QOne, QLists, QApply.
-/
import Derived.Test.YtmfdlglhngmacaaGreatDoorYM
import Derived.Test.YtmfdlglhngmacaaGreatDoorYT
import Derived.Test.YtmfdlglhngmacaaGreatDoorYI
import Derived.Test.YtmfdlglhngmacaaGreatDoorYL
set_option linter.unusedSimpArgs false
set_option linter.unusedVariables false
set_option linter.defProp false
set_option maxRecDepth 100000
/-
  The reference's machine: its state, as the heap holds it.
-/
namespace Go.Lite
open Go Go.Proofs
def a9N:Nat→Obj→Prop:=fun _ o=>∃ cs es fz ty,o= .row cs es fz ty∧(ty=some 126∨ty=some 83)
theorem qR {j:Nat}{cs:List AV}{es:Nat}{fz:Bool}{t:Option Nat}(h1:t≠some 126) (h2:t≠some 83):¬a9N j (.row cs es fz t):=by
 rintro⟨a,b,c,d,e,h⟩
 simp only[Obj.row.injEq]at e
 obtain⟨_,_,_,rfl⟩:=e
 rcases h with h|h
 · exact h1 h
 · exact h2 h
abbrev KeepQ (H H':Heap):Prop:=HKeep a9N H H'
def StayQ (H H':Heap):Prop:=∀ j cs es fz t,H.t.get j=some (.row cs es fz t)→t=none∨t=some 92∨t=some 84→H'.t.get j=some (.row cs es fz t)
theorem HKeep.stayQ {H H':Heap}(k:KeepQ H H'):StayQ H H':=fun j cs es fz t h ht=>k.get _ _ h (qR (by rcases ht with rfl|rfl|rfl<;>simp) (by rcases ht with rfl|rfl|rfl<;>simp))
theorem StayQ.refl {H:Heap}:StayQ H H:=fun _ _ _ _ _ h _=>h
theorem StayQ.trans {A B C:Heap}(h:StayQ A B) (k:StayQ B C):StayQ A C:=fun j cs es fz t g ht=>k j cs es fz t (h j cs es fz t g ht) ht
theorem StayQ.push {H:Heap}{ob:Obj}(low:HLow H):StayQ H (H.push ob):=(HKeep.push (X:=a9N) low).stayQ
theorem StayQ.put {H:Heap}{k:Nat}{cs:List AV}{es:Nat}{fz:Bool}{t:Nat}{ob:Obj}(hk:H.t.get k=some (.row cs es fz (some t))) (h1:t≠92) (h2:t≠84):StayQ H (H.put k ob):=fun j cs' es' fz' t' g ht=>by
 rw[qD,if_neg]
 · exact g
 · rintro rfl
   rw[hk]at g
   simp only[Option.some.injEq,Obj.row.injEq]at g
   obtain⟨_,_,_,rfl⟩:=g
   rcases ht with h|h|h
   · cases h
   · exact h1 (Option.some.inj h)
   · exact h2 (Option.some.inj h)
def BindR (bs:List Nat):List (Str×Nat)→List AV→Prop
 | [],cs=>cs=[]
 | p::l,cs=>∃ c cs',cs= .str p.1::c::cs'∧PC bs p.2 c∧BindR bs l cs'
theorem BindR.more {bs x:List Nat}:∀ {l:List (Str×Nat)}{cs:List AV},BindR bs l cs→BindR (bs++x) l cs
 | [],cs,h=>h
 | p::l,cs,h=>by
   obtain⟨c,cs',rfl,h1,h2⟩:=h
   exact⟨c,cs',rfl,h1.more,h2.more⟩
theorem BindR.len {bs:List Nat}:∀ {l:List (Str×Nat)}{cs:List AV},BindR bs l cs→cs.length=l.length*2
 | [],cs,h=>by rw[show cs=[]from h];rfl
 | p::l,cs,h=>by
   obtain⟨c,cs',rfl,h1,h2⟩:=h
   simp only[List.length_cons,h2.len];omega
theorem BindR.flat {bs:List Nat}:∀ {l:List (Str×Nat)}{cs:List AV},BindR bs l cs→cs.all AV.flat=true
 | [],cs,h=>by rw[show cs=[]from h];rfl
 | p::l,cs,h=>by
   obtain⟨c,cs',rfl,⟨b,_,rfl⟩,h2⟩:=h
   simp[AV.flat,h2.flat]
theorem BindR.append {bs:List Nat}:∀ {l l':List (Str×Nat)}{cs cs':List AV},BindR bs l cs→BindR bs l' cs'→BindR bs (l++l') (cs++cs')
 | [],l',cs,cs',h,h'=>by rw[show cs=[]from h];exact h'
 | p::l,l',cs,cs',h,h'=>by
   obtain⟨c,cs1,rfl,h1,h2⟩:=h
   exact⟨c,cs1++cs',rfl,h1,h2.append h'⟩
theorem BindR.get {bs:List Nat}:∀ {l:List (Str×Nat)}{cs:List AV}{j:Nat}{p:Str×Nat},BindR bs l cs→l[j]? = some p→cs[j*2]? = some (.str p.1)∧∃ c,cs[j*2+1]? = some c∧PC bs p.2 c
 | [],cs,j,p,h,e=>by simp at e
 | q::l,cs,0,p,h,e=>by
   obtain⟨c,cs',rfl,h1,h2⟩:=h
   simp only[List.getElem?_cons_zero,Option.some.injEq]at e
   subst e
   exact⟨rfl,c,rfl,h1⟩
 | q::l,cs,j+1,p,h,e=>by
   obtain⟨c,cs',rfl,h1,h2⟩:=h
   have:=h2.get (j:=j) (by simpa using e)
   rw[show(j+1)*2=j*2+1+1 by omega]
   simpa using this
def EnvZ (H:Heap) (bs:List Nat) (env:Env) (v:AV):Prop:=∃ k cells es c ty,v= .slice (.new k) 0 env.length c∧c.es=2∧0<env.length∧H.t.get k=some (.row cells es false ty)∧(ty=none∨ty=some 92)∧BindR bs env.reverse cells
theorem EnvZ.keep {H H':Heap}{bs x:List Nat}{env:Env}{v:AV}(h:EnvZ H bs env v) (k:StayQ H H'):EnvZ H' (bs++x) env v:=by
 obtain⟨j,cells,es,c,ty,h1,h2,h3,h4,h5,h6⟩:=h
 exact⟨j,cells,es,c,ty,h1,h2,h3,k _ _ _ _ _ h4 (by rcases h5 with h|h<;>simp[h]),h5,h6.more⟩
theorem EnvZ.stay {H H':Heap}{bs:List Nat}{env:Env}{v:AV}(h:EnvZ H bs env v) (k:StayQ H H'):EnvZ H' bs env v:=by
 have:=h.keep (x:=[]) k
 rwa [List.append_nil]at this
theorem EnvZ.flat {H:Heap}{bs:List Nat}{env:Env}{v:AV}(h:EnvZ H bs env v):v.flat=true:=by
 obtain⟨j,cells,es,c,ty,rfl,_⟩:=h;rfl
theorem EnvZ.len {H:Heap}{bs:List Nat}{env:Env}{v:AV}(h:EnvZ H bs env v):lenM v=some (.int .i64 env.length):=by
 obtain⟨j,cells,es,c,ty,rfl,_⟩:=h;rfl
theorem EnvZ.taken {H:Heap}{bs:List Nat}{env:Env}{v:AV}(h:EnvZ H bs env v):∃ cs,Lite.taken 2 H v=some (env.length,cs)∧BindR bs env.reverse cs:=by
 obtain⟨j,cells,es,c,ty,rfl,h2,h3,h4,h5,h6⟩:=h
 refine⟨cells,?_,h6⟩
 have hl:=h6.len
 rw[List.length_reverse]at hl
 simp only[zP,tK,wY,h4,wX,a2g,List.drop_zero]
 rw[←hl,List.take_length,if_pos rfl];rfl
def LisZ (H:Heap) (bs:List Nat) (l:List Nat) (v:AV):Prop:=
 (l=[]∧(v= .nils∨v= .emp∨v=E0))∨∃ k o cells,l≠[]∧v= .slice (.new k) o l.length (.gro 1)∧H.t.get k=some (.row cells 1 false (some 84))∧PCs bs l ((cells.drop o).take l.length)
theorem LisZ.keep {H H':Heap}{bs x:List Nat}{l:List Nat}{v:AV}(h:LisZ H bs l v) (k:StayQ H H'):LisZ H' (bs++x) l v:=by
 rcases h with h|⟨j,o,cells,h1,h2,h3,h4⟩
 · exact .inl h
 · exact .inr ⟨j,o,cells,h1,h2,k _ _ _ _ _ h3 (by decide),h4.more⟩
theorem LisZ.stay {H H':Heap}{bs:List Nat}{l:List Nat}{v:AV}(h:LisZ H bs l v) (k:StayQ H H'):LisZ H' bs l v:=by
 have:=h.keep (x:=[]) k
 rwa [List.append_nil]at this
theorem LisZ.flat {H:Heap}{bs:List Nat}{l:List Nat}{v:AV}(h:LisZ H bs l v):v.flat=true:=by
 rcases h with⟨_,rfl|rfl|rfl⟩|⟨_,_,_,_,rfl,_⟩<;>rfl
theorem LisZ.len {H:Heap}{bs:List Nat}{l:List Nat}{v:AV}(h:LisZ H bs l v):lenM v=some (.int .i64 l.length):=by
 rcases h with⟨rfl,rfl|rfl|rfl⟩|⟨_,_,_,_,rfl,_⟩<;>rfl
theorem LisZ.taken {H:Heap}{bs:List Nat}{l:List Nat}{v:AV}(h:LisZ H bs l v):∃ cs,Lite.taken 1 H v=some (l.length,cs)∧PCs bs l cs:=by
 rcases h with⟨rfl,rfl|rfl|rfl⟩|⟨k,o,cells,h1,rfl,h2,h3⟩
 · exact⟨[],rfl,trivial⟩
 · exact⟨[],rfl,trivial⟩
 · exact⟨[],rfl,trivial⟩
 · refine⟨_,?_,h3⟩
   simp only[zP,tK,wY,h2,wX,a2g,Nat.mul_one]
   rw[if_pos h3.len];rfl
theorem LisZ.at {H:Heap}{bs l:List Nat}{v:AV}(h:LisZ H bs l v) {i j:Nat}(hi:l[i]? = some j):∃ b q cells c,xV 1 v i=some (.ptr (.new b) q)∧H.t.get b=some (.row cells 1 false (some 84))∧cells[q]? = some c∧PC bs j c:=by
 rcases h with⟨rfl,_⟩|⟨k,o,cells,h1,rfl,h2,h3⟩
 · simp at hi
 · obtain⟨c,hc,hp⟩:=h3.get hi
   have hlt:i<l.length:=(List.getElem?_eq_some_iff.1 hi).1
   refine⟨k,o+i*1,cells,c,by rw[jL,if_pos hlt],h2,?_,hp⟩
   rw[List.getElem?_take,if_pos hlt,List.getElem?_drop]at hc
   rw[Nat.mul_one];exact hc
theorem LisZ.pre {H:Heap}{bs l:List Nat}{v:AV}(h:LisZ H bs l v) (hl:l≠[]) {k:Nat}(hk:k≤l.length):∃ u cs,zV 1 v none (some k) none=some u∧(∀ H',StayQ H H'→Lite.taken 1 H' u=some (k,cs))∧PCs bs (l.take k) cs:=by
 rcases h with⟨rfl,_⟩|⟨j,o,cells,h1,rfl,h2,h3⟩
 · exact absurd rfl hl
 · have hlen:=h3.len
   refine⟨.slice (.new j) o k (.gro 1),((cells.drop o).take l.length).take k,?_,fun H' st=> ?_,h3.take k⟩
   · simp only[zV,capOf,Option.getD_none,Option.getD_some]
     rw[if_pos (by omega)]
     simp
   · have h2':=st _ _ _ _ _ h2 (.inr (.inr rfl))
     simp only[zP,tK,wY,h2',wX,a2g,Nat.mul_one]
     rw[List.length_take]at hlen
     rw[List.take_take,Nat.min_eq_left hk,if_pos (by rw[List.length_take];omega)];rfl
theorem LisZ.rest {H:Heap}{bs l:List Nat}{v:AV}(h:LisZ H bs l v) (hl:l≠[]) {k:Nat}(hk:k≤l.length):∃ u,zV 1 v (some k) none none=some u∧u.flat=true∧LisZ H bs (l.drop k) u:=by
 rcases h with⟨rfl,_⟩|⟨j,o,cells,h1,rfl,h2,h3⟩
 · exact absurd rfl hl
 · simp only[zV,capOf,Option.getD_none,Option.getD_some]
   rw[if_pos (by omega)]
   by_cases hc:k=0∨k<l.length
   · rw[if_pos hc]
     simp only[if_true]
     have hne:l.drop k≠[]:=by
      intro e
      have:=congrArg List.length e
      have:=List.length_pos_iff.2 hl
      simp at *;omega
     refine⟨_,rfl,rfl,.inr ⟨j,o+k*1,cells,hne,by rw[List.length_drop],h2,?_⟩⟩
     have h5:=h3.drop k
     rw[List.drop_take,List.drop_drop]at h5
     rw[Nat.mul_one,List.length_drop];exact h5
   · rw[if_neg hc]
     have:l.drop k=[]:=List.drop_eq_nil_of_le (by omega)
     exact⟨_,rfl,rfl,.inl ⟨this,.inr (.inl rfl)⟩⟩
theorem LisZ.acc {N:Nat}{H:Heap}{bs l:List Nat}{cells:List AV}{v:AV}(h:Acc N H 84 1 l.length cells v) (hp:PCs bs l cells):LisZ H bs l v:=by
 rcases h with⟨h1,rfl,rfl⟩|⟨h1,h2,k,rfl,h3,h4⟩
 · exact .inl ⟨List.eq_nil_of_length_eq_zero h1,.inl rfl⟩
 · refine .inr ⟨k,0,cells,fun e=>h1 (by rw[e];rfl),rfl,h4,?_⟩
   rw[List.drop_zero,List.take_of_length_le (by omega)];exact hp
mutual
def X.nn:X→Nat
 | .mk _ _ ns l=>ns.length+X.nns l
def X.nns:List X→Nat
 | []=>0
 | x::l=>x.nn+X.nns l
end
theorem X.nn_mem {x:X}:∀ {l:List X},x∈l→x.nn≤X.nns l
 | [],h=>by cases h
 | y::l,h=>by
   rw[X.nns]
   rcases List.mem_cons.1 h with rfl|h
   · omega
   · have:=X.nn_mem h;omega
mutual
def X.uni:X→Prop
 | .mk k t _ l=>(k=10→l.length=1→t≠kY∧t≠seqT∧t≠eqP)∧X.unis l
def X.unis:List X→Prop
 | []=>True
 | x::l=>x.uni∧X.unis l
end
theorem X.unis_iff:∀ (l:List X),X.unis l↔∀ x∈l,x.uni
 | []=>by simp[X.unis]
 | x::l=>by simp[X.unis,X.unis_iff l]
def Room (e:X) (env:Env):Prop:=e.tame∧env.length+e.nn≤1000000000∧e.uni
theorem Room.le {e:X}{env:Env}(h:Room e env):env.length≤1000000000:=by have:=h.2.1;omega
theorem Room.sub {k:Int}{t:Str}{ns:List Str}{l:List X}{env env':Env}(h:Room (.mk k t ns l) env) (hl:env'.length≤env.length+ns.length) {e:X}(he:e∈l):Room e env':=by
 obtain⟨h1,h2,h3⟩:=h
 rw[X.tame]at h1
 rw[X.nn]at h2
 have:=X.nn_mem he
 exact⟨(X.tames_iff l).1 h1.2.2.2 e he,by omega,(X.unis_iff l).1 h3.2 e he⟩
theorem kE:∀ (ns:List Str) (i:Nat) (env:Env),(x9 ns i env).length=env.length+ns.length
 | [],i,env=>rfl
 | n::ns,i,env=>by rw[x9,kE ns];simp;omega
def ValZ (H:Heap) (bs:List Nat):V→List AV→Prop
 | .atom k t,cs=>∃ e,cs=[.int .i64 k,.str t,.nilp,.nilp,.int .i64 0,.str [],e,e,e,e]∧1≤k∧k≤4∧bW k t∧(e= .nils∨e=E0)
 | .pair p q,cs=>∃ c2 c3,cs=[.int .i64 5,.str [],c2,c3,.int .i64 0,.str [],.nils,.nils,.nils,.nils]∧PC bs p c2∧PC bs q c3
 | .fn (.mk k t ns a) env g,cs=>∃ c8 c9,cs=[.int .i64 6,.str [],.nilp,.nilp,.int .i64 k,.str t,qE ns,vXs a,c8,c9]∧Room (.mk k t ns a) env∧EnvZ H bs env c8∧LisZ H bs g c9∧g.length≤ns.length
theorem ValZ.keep {H H':Heap}{bs x:List Nat}{v:V}{cs:List AV}(h:ValZ H bs v cs) (k:StayQ H H'):ValZ H' (bs++x) v cs:=by
 cases v with
 | atom k t=>exact h
 | pair p q=>
   obtain⟨c2,c3,h1,h2,h3⟩:=h
   exact⟨c2,c3,h1,h2.more,h3.more⟩
 | fn e env g=>
   cases e
   obtain⟨c8,c9,h1,h0,h2,h3,h4⟩:=h
   exact⟨c8,c9,h1,h0,h2.keep k,h3.keep k,h4⟩
theorem ValZ.stay {H H':Heap}{bs:List Nat}{v:V}{cs:List AV}(h:ValZ H bs v cs) (k:StayQ H H'):ValZ H' bs v cs:=by
 have:=h.keep (x:=[]) k
 rwa [List.append_nil]at this
theorem ValZ.ten {H:Heap}{bs:List Nat}{v:V}{cs:List AV}(h:ValZ H bs v cs):∃ t c2 c3 c4 c5 c6 c7 c8 c9,cs=[.int .i64 v.kind,.str t,c2,c3,c4,c5,c6,c7,c8,c9]∧t=v.text∧1≤v.kind∧v.kind≤6∧(c2.flat=true∧c3.flat=true∧c4.flat=true∧c5.flat=true)∧(c6.flat=true∧c7.flat=true∧c8.flat=true∧c9.flat=true):=by
 cases v with
 | atom k t=>
   obtain⟨e,rfl,h1,h2,h3,h4⟩:=h
   have fe:e.flat=true:=by rcases h4 with rfl|rfl<;>rfl
   exact⟨t,_,_,_,_,_,_,_,_,rfl,rfl,h1,by simp only[V.kind];omega,⟨rfl,rfl,rfl,rfl⟩,⟨fe,fe,fe,fe⟩⟩
 | pair p q=>
   obtain⟨c2,c3,rfl,⟨b,_,rfl⟩,⟨b',_,rfl⟩⟩:=h
   exact⟨[],_,_,_,_,_,_,_,_,rfl,rfl,by simp[V.kind],by simp[V.kind],⟨rfl,rfl,rfl,rfl⟩,⟨rfl,rfl,rfl,rfl⟩⟩
 | fn e env g=>
   cases e
   obtain⟨c8,c9,rfl,h0,h2,h3,h4⟩:=h
   exact⟨[],_,_,_,_,_,_,_,_,rfl,rfl,by simp[V.kind],by simp[V.kind],⟨rfl,rfl,rfl,rfl⟩,⟨mP,a1B,h2.flat,h3.flat⟩⟩
def CellZ (H:Heap) (bs:List Nat):C→List AV→Prop
 | .wait (.mk k t ns a) env,cs=>∃ ev,cs=[.int .i64 0,.int .i64 k,.str t,qE ns,vXs a,ev]++[AV.int .i64 0,.str [],.nilp,.nilp,.int .i64 0,.str [],.nils,.nils,.nils,.nils]∧Room (.mk k t ns a) env∧EnvZ H bs env ev
 | .busy (.mk k t ns a) env,cs=>∃ ev,cs=[.int .i64 1,.int .i64 k,.str t,qE ns,vXs a,ev]++[AV.int .i64 0,.str [],.nilp,.nilp,.int .i64 0,.str [],.nils,.nils,.nils,.nils]∧Room (.mk k t ns a) env∧EnvZ H bs env ev
 | .done v,cs=>∃ vs d0 d1 d2 d3 d4,cs=[.int .i64 2,d0,d1,d2,d3,d4]++vs∧ValZ H bs v vs
theorem CellZ.keep {H H':Heap}{bs x:List Nat}{c:C}{cs:List AV}(h:CellZ H bs c cs) (k:StayQ H H'):CellZ H' (bs++x) c cs:=by
 cases c with
 | wait e env=>
   cases e
   obtain⟨ev,h1,h0,h2⟩:=h
   exact⟨ev,h1,h0,h2.keep k⟩
 | busy e env=>
   cases e
   obtain⟨ev,h1,h0,h2⟩:=h
   exact⟨ev,h1,h0,h2.keep k⟩
 | done v=>
   obtain⟨vs,d0,d1,d2,d3,d4,h1,h2⟩:=h
   exact⟨vs,d0,d1,d2,d3,d4,h1,h2.keep k⟩
def mRow (F st us:Nat) (k:Int) (t:Str):Obj:= .row [.int .i64 st,.int .i64 us,.int .i64 F,.int .i64 k,.str t,.int .i64 0] 0 false (some 83)
structure StZ (F km:Nat) (H:Heap) (bs:List Nat) (s:S) (d:Nat):Prop where
 low:HLow H
 m:H.t.get km=some (mRow F s.steps s.uses 0 [])
 nodup:bs.Nodup
 len:bs.length=s.cells.length
 cells:∀ (i b:Nat) (c:C),bs[i]? = some b→s.cells[i]? = some c→∃ cs,H.t.get b=some (.row cs 0 false (some 126))∧CellZ H bs c cs
 steps:s.steps≤F
 uses:s.uses≤s.steps+d
 small:F≤1099511627776
theorem StZ.at {F km:Nat}{H:Heap}{bs:List Nat}{s:S}{d i b:Nat}(h:StZ F km H bs s d) (hb:bs[i]? = some b):∃ c cs,s.cells[i]? = some c∧H.t.get b=some (.row cs 0 false (some 126))∧CellZ H bs c cs:=by
 have hi:i<s.cells.length:=by rw[←h.len];exact(List.getElem?_eq_some_iff.1 hb).1
 obtain⟨cs,h1,h2⟩:=h.cells i b _ hb (List.getElem?_eq_getElem hi)
 exact⟨_,cs,List.getElem?_eq_getElem hi,h1,h2⟩
theorem StZ.block {F km:Nat}{H:Heap}{bs:List Nat}{s:S}{d b:Nat}(h:StZ F km H bs s d) (hb:b∈bs):∃ cs,H.t.get b=some (.row cs 0 false (some 126)):=by
 obtain⟨i,hi⟩:=List.mem_iff_getElem?.1 hb
 obtain⟨c,cs,_,h1,_⟩:=h.at hi
 exact⟨cs,h1⟩
theorem StZ.keep {F km:Nat}{H H':Heap}{bs:List Nat}{s:S}{d:Nat}(h:StZ F km H bs s d) (low:HLow H') (k:StayQ H H') (hc:∀ j cs t,H.t.get j=some (.row cs 0 false (some t))→t=126∨t=83→H'.t.get j=some (.row cs 0 false (some t))):StZ F km H' bs s d where
 low:=low
 m:=hc _ _ _ h.m (.inr rfl)
 nodup:=h.nodup
 len:=h.len
 cells i b c hb hs:=by
  obtain⟨cs,h1,h2⟩:=h.cells i b c hb hs
  exact⟨cs,hc _ _ _ h1 (.inl rfl),by simpa using h2.keep (x:=[]) k⟩
 steps:=h.steps
 uses:=h.uses
 small:=h.small
theorem StZ.push {F km:Nat}{H:Heap}{bs:List Nat}{s:S}{d:Nat}{ob:Obj}(h:StZ F km H bs s d):StZ F km (H.push ob) bs s d:=
 h.keep h.low.push (StayQ.push h.low) fun j cs t hj _=>by
  rw[qF,if_neg (by have:=h.low.lt hj;omega)];exact hj
theorem StZ.box {F km:Nat}{H:Heap}{bs:List Nat}{s:S}{d k t:Nat}{cs:List AV}{es:Nat}{fz:Bool}{ob:Obj}(h:StZ F km H bs s d) (hk:H.t.get k=some (.row cs es fz (some t))) (ht:t=28∨t=88):StZ F km (H.put k ob) bs s d:=
 h.keep (h.low.put (h.low.lt hk)) (StayQ.put hk (by omega) (by omega)) fun j cs' t' hj ht'=>by
  rw[qD,if_neg]
  · exact hj
  · rintro rfl
    rw[hk]at hj
    simp only[Option.some.injEq,Obj.row.injEq]at hj
    obtain⟨_,_,_,rfl⟩:=hj
    omega
theorem StZ.weak {F km:Nat}{H:Heap}{bs:List Nat}{s:S}{d d':Nat}(h:StZ F km H bs s d) (hd:d≤d'):StZ F km H bs s d':={ h with uses:=by have:=h.uses;omega }
theorem StZ.view {F km:Nat}{V H:Heap}{bs:List Nat}{s:S}{d:Nat}(h:StZ F km V bs s d) (v:View V H) (low:HLow H):StZ F km H bs s d:=h.keep low (fun j cs es fz t g _=>v.get _ _ g) fun j cs t g _=>v.get _ _ g
theorem StZ.same {F km:Nat}{V V':Heap}{bs:List Nat}{s:S}{d:Nat}(h:StZ F km V bs s d) (hg:∀ j,V'.t.get j=V.t.get j) (hn:V.n≤V'.n):StZ F km V' bs s d:=
 h.keep (fun j o g=>by rw[hg]at g;have:=h.low _ _ g;omega) (fun j cs es fz t g _=>by rw[hg];exact g) fun j cs t g _=>by rw[hg];exact g
theorem StZ.new {F km:Nat}{H:Heap}{bs:List Nat}{s:S}{d:Nat}{c:C}{cs:List AV}(h:StZ F km H bs s d) (hc:CellZ H bs c cs):StZ F km (H.push (.row cs 0 false (some 126))) (bs++[H.n]) (s.new c).2 d where
 low:=h.low.push
 m:=by rw[qF,if_neg (by have:=h.low.lt h.m;omega)];exact h.m
 nodup:=by
  rw[List.nodup_append]
  refine⟨h.nodup,by simp,?_⟩
  intro a ha b hb e
  simp only[List.mem_singleton]at hb
  obtain⟨cs',h1⟩:=h.block ha
  have:=h.low.lt h1
  omega
 len:=by simp[S.new,h.len]
 cells i b c' hb hs:=by
  have k:KeepQ H (H.push (.row cs 0 false (some 126))):=HKeep.push h.low
  simp only[S.new]at hs
  by_cases hi:i<s.cells.length
  · rw[List.getElem?_append_left (by rw[h.len];exact hi)]at hb
    rw[List.getElem?_append_left hi]at hs
    obtain⟨cs',h1,h2⟩:=h.cells i b c' hb hs
    exact⟨cs',by rw[qF,if_neg (by have:=h.low.lt h1;omega)];exact h1,h2.keep k.stayQ⟩
  · have hi':i=s.cells.length:=by
     have:=(List.getElem?_eq_some_iff.1 hs).1
     simp at this;omega
    subst hi'
    rw[←h.len]at hb
    simp at hb hs
    subst hb hs
    exact⟨cs,by rw[qF,if_pos rfl],hc.keep k.stayQ⟩
 steps:=h.steps
 uses:=h.uses
 small:=h.small
theorem KeepQ.cell {H:Heap}{b:Nat}{cs:List AV}{ob:Obj}{t:Nat}(hb:H.t.get b=some (.row cs 0 false (some t))) (ht:t=126∨t=83) (low:HLow H):KeepQ H (H.put b ob):=
 ⟨Nat.le_refl _,fun j o hj hx=>by
  rw[qD,if_neg]
  · exact hj
  · rintro rfl
    rw[hb]at hj
    simp only[Option.some.injEq]at hj
    subst hj
    exact hx ⟨_,_,_,_,rfl,by rcases ht with rfl|rfl<;>simp⟩,fun h=>h.put (low.lt hb)⟩
theorem StZ.sets {F km:Nat}{H H':Heap}{bs:List Nat}{s:S}{d i b:Nat}{c:C}{cs:List AV}(h:StZ F km H bs s d) (hb:bs[i]? = some b) (low:HLow H') (k:StayQ H H')
 (hc:∀ j cs t,H.t.get j=some (.row cs 0 false (some t))→t=126∨t=83→j≠b→H'.t.get j=some (.row cs 0 false (some t))) (hb':H'.t.get b=some (.row cs 0 false (some 126))) (hcell:CellZ H' bs c cs):StZ F km H' bs (s.set i c) d:=by
 obtain⟨c0,cs0,h0,g0,_⟩:=h.at hb
 refine⟨low,?_,h.nodup,by simp[S.set,h.len],?_,h.steps,h.uses,h.small⟩
 · refine hc _ _ _ h.m (.inr rfl) ?_
   rintro rfl
   rw[h.m]at g0
   simp[mRow]at g0
 · intro j b' c' hb2 hs
   simp only[S.set]at hs
   rw[List.getElem?_set]at hs
   by_cases hij:i=j
   · subst hij
     rw[hb]at hb2
     simp only[Option.some.injEq]at hb2
     subst hb2
     have hl:i<s.cells.length:=(List.getElem?_eq_some_iff.1 h0).1
     rw[if_pos rfl,if_pos hl]at hs
     simp only[Option.some.injEq]at hs
     subst hs
     exact⟨cs,hb',hcell⟩
   · rw[if_neg hij]at hs
     obtain⟨cs',h1,h2⟩:=h.cells j b' c' hb2 hs
     have hne:b'≠b:=by
      rintro rfl
      exact hij (((List.getElem?_inj (List.getElem?_eq_some_iff.1 hb).1 h.nodup).1 (hb.trans hb2.symm)))
     exact⟨cs',hc _ _ _ h1 (.inl rfl) hne,by simpa using h2.keep (x:=[]) k⟩
theorem StZ.set {F km:Nat}{H:Heap}{bs:List Nat}{s:S}{d i b:Nat}{c:C}{cs:List AV}(h:StZ F km H bs s d) (hb:bs[i]? = some b) (hc:CellZ H bs c cs):StZ F km (H.put b (.row cs 0 false (some 126))) bs (s.set i c) d:=by
 obtain⟨c0,cs0,h0,g0,_⟩:=h.at hb
 have k:StayQ H (H.put b (.row cs 0 false (some 126))):=StayQ.put g0 (by decide) (by decide)
 refine h.sets hb (h.low.put (h.low.lt g0)) k (fun j cs t hj _ hne=>by rw[qD,if_neg hne];exact hj) (by rw[qD,if_pos rfl]) (by simpa using hc.keep (x:=[]) k)
theorem StZ.count {F km:Nat}{H:Heap}{bs:List Nat}{s:S}{d d' st us:Nat}(h:StZ F km H bs s d) (h1:st≤F) (h2:us≤st+d'):StZ F km (H.put km (mRow F st us 0 [])) bs { s with steps:=st,uses:=us } d':=by
 have k:KeepQ H (H.put km (mRow F st us 0 [])):=KeepQ.cell h.m (.inr rfl) h.low
 refine⟨h.low.put (h.low.lt h.m),by rw[qD,if_pos rfl],h.nodup,h.len,?_,h1,h2,h.small⟩
 intro j b' c' hb' hs
 obtain⟨cs',h1,h2⟩:=h.cells j b' c' hb' hs
 refine⟨cs',?_,by simpa using h2.keep (x:=[]) k.stayQ⟩
 rw[qD,if_neg]
 · exact h1
 · rintro rfl
   rw[h.m]at h1
   simp[mRow]at h1
structure EndQ (F km:Nat) (H:Heap) (k:Int) (t:Str) (s:S):Prop where
 low:HLow H
 m:H.t.get km=some (mRow F s.steps s.uses k t)
 ne:k≠0
def GiveQ (F km:Nat) (H:Heap) (bs:List Nat) (r:R):O V→Prop
 | .val v s=>∃ cs H' x,r=some (.ret (.agg cs),H')∧ValZ H' (bs++x) v cs∧StZ F km H' (bs++x) s 0∧KeepQ H H'
 | .stop k t s=>∃ c0 c1 c2 c3 c4 c5 c6 c7 c8 c9 H',r=some (.ret (.agg [c0,c1,c2,c3,c4,c5,c6,c7,c8,c9]),H')∧(((c0.flat=true∧∃ z,c0= .int .i64 z)∧(c1.flat=true∧∃ t,c1= .str t)∧c2.flat=true∧c3.flat=true∧c4.flat=true)∧c5.flat=true∧c6.flat=true∧c7.flat=true∧c8.flat=true∧c9.flat=true)∧EndQ F km H' k t s∧KeepQ H H'
def EvalQ (F m:Nat):Prop:=∀ e env s o,Room e env→evalA F m e env s=some o→Ev fun n=>∀ km H bs ev,StZ F km H bs s 1→EnvZ H bs env ev→GiveQ F km H bs (qB P5 n 29 [.ptr (.new km) 0,e.v,ev] H) o
def bJ (F m:Nat):Prop:=∀ c s o,qP F m c s=some o→Ev fun n=>∀ km H bs cv,StZ F km H bs s 0→PC bs c cv→GiveQ F km H bs (qB P5 n 55 [.ptr (.new km) 0,cv] H) o
def a2r (F m:Nat):Prop:=∀ v l s o,applyA F m v l s=some o→Ev fun n=>∀ km H bs cs lv,StZ F km H bs s 0→ValZ H bs v cs→LisZ H bs l lv→GiveQ F km H bs (qB P5 n 58 [.ptr (.new km) 0,.agg cs,lv] H) o
theorem EvalQ.get {F m:Nat}(ih:EvalQ F m) (e:X) (env:Env) (s:S) (ht:Room e env):Ev fun n=>∀ p,evalA F m e env s=some p→∀ km H bs ev,StZ F km H bs s 1→EnvZ H bs env ev→GiveQ F km H bs (qB P5 n 29 [.ptr (.new km) 0,e.v,ev] H) p:=
 Ev.opt fun p hp=>ih e env s p ht hp
theorem GiveQ.from {F km:Nat}{H H1:Heap}{bs:List Nat}{r:R}{o:O V}(h:GiveQ F km H1 bs r o) (k:KeepQ H H1):GiveQ F km H bs r o:=by
 cases o with
 | val v s=>
   obtain⟨cs,H',x,h1,h2,h3,h4⟩:=h
   exact⟨cs,H',x,h1,h2,h3,k.trans h4⟩
 | stop a t s=>
   obtain⟨c0,c1,c2,c3,c4,c5,c6,c7,c8,c9,H',h1,h2,h3,h4⟩:=h
   exact⟨c0,c1,c2,c3,c4,c5,c6,c7,c8,c9,H',h1,h2,h3,k.trans h4⟩
theorem GiveQ.more {F km:Nat}{H:Heap}{bs x:List Nat}{r:R}{o:O V}(h:GiveQ F km H (bs++x) r o):GiveQ F km H bs r o:=by
 cases o with
 | val v s=>
   obtain⟨cs,H',y,h1,h2,h3,h4⟩:=h
   rw[List.append_assoc]at h2 h3
   exact⟨cs,H',x++y,h1,h2,h3,h4⟩
 | stop a t s=>exact h
theorem kW {F km:Nat}{H G:Heap}{bs:List Nat}{s:S}{v:V}{cs:List AV}(st:StZ F km G bs s 0) (hv:ValZ G bs v cs) (k:KeepQ H G):GiveQ F km H bs (some (.ret (.agg cs),G)) (.val v s):=
 ⟨cs,G,[],rfl,by simpa using hv,by simpa using st,k⟩
theorem xH {F km:Nat}{H H1:Heap}{bs:List Nat}{r:R}{o:O V}(g:GiveQ F km H1 bs r o) (kp:KeepQ H H1) (low:HLow H) {k d b:Nat}{z:List AV}(hkH:H.n≤k) (hk:H1.t.get k=some (.row z 0 false (some 88))) (hz:z.length=10)
 {call:xG}{fr:Fr}{K:Fr→Heap→R}(hb:fr b= .ptr (.new k) 0) (hbd:b≠d) (hK:∀ fr' H' cs,fr' b= .ptr (.new k) 0→H'.t.get k=some (.row cs 0 false (some 88))→cs.length=10→K fr' H'=some (.ret (.agg cs),H')):
 GiveQ F km H bs (rG r call (some d) [⟨none,none,.w (.store 10 (.tmp b) (.tmp d))⟩] fr K) o:=by
 have hbeq:(b==d)=false:=by simpa using hbd
 have hz2:List.drop 10 z=[]:=List.drop_eq_nil_of_le (by omega)
 cases o with
 | stop a t s=>
   obtain⟨c0,c1,c2,c3,c4,c5,c6,c7,c8,c9,H',rfl,⟨⟨f0,f1,f2,f3,f4⟩,f5,f6,f7,f8,f9⟩,h3,h4⟩:=g
   have hk':=h4.get _ _ hk (qR (by decide) (by decide))
   have lk:=h3.low.lt hk'
   have nk:¬km=k:=by
    rintro rfl
    rw[h3.m]at hk'
    simp[mRow]at hk'
   have hKK:=hK (fr.set d (.agg [c0,c1,c2,c3,c4,c5,c6,c7,c8,c9])) (H'.put k (.row [c0,c1,c2,c3,c4,c5,c6,c7,c8,c9] 0 false (some 88))) [c0,c1,c2,c3,c4,c5,c6,c7,c8,c9] (by rw[a4e,hbeq];exact hb) (by rw[qD,if_pos rfl]) rfl
   simp -implicitDefEqProofs only[↓qA,ZZ,seval,hb,hbeq,hk',hz,hz2,f0,f1,f2,f3,f4,f5,f6,f7,f8,f9,hKK]
   exact⟨c0,c1,c2,c3,c4,c5,c6,c7,c8,c9,_,rfl,⟨⟨f0,f1,f2,f3,f4⟩,f5,f6,f7,f8,f9⟩,⟨h3.low.put lk,by rw[qD,if_neg nk];exact h3.m,h3.ne⟩,(kp.trans h4).own low hkH lk⟩
 | val v s=>
   obtain⟨vs,H',x,rfl,h2,h3,h4⟩:=g
   have hk':=h4.get _ _ hk (qR (by decide) (by decide))
   have lk:=h3.low.lt hk'
   obtain⟨t,c2,c3,c4,c5,c6,c7,c8,c9,rfl,_,_,_,⟨f2,f3,f4,f5⟩,⟨f6,f7,f8,f9⟩⟩:=h2.ten
   have hKK:=hK (fr.set d (.agg [.int .i64 v.kind,.str t,c2,c3,c4,c5,c6,c7,c8,c9])) (H'.put k (.row [.int .i64 v.kind,.str t,c2,c3,c4,c5,c6,c7,c8,c9] 0 false (some 88))) [.int .i64 v.kind,.str t,c2,c3,c4,c5,c6,c7,c8,c9] (by rw[a4e,hbeq];exact hb) (by rw[qD,if_pos rfl]) rfl
   have hstay:StayQ H' (H'.put k (.row [.int .i64 v.kind,.str t,c2,c3,c4,c5,c6,c7,c8,c9] 0 false (some 88))):=StayQ.put hk' (by decide) (by decide)
   simp -implicitDefEqProofs only[↓qA,ZZ,seval,hb,hbeq,hk',hz,hz2,f2,f3,f4,f5,f6,f7,f8,f9,hKK]
   refine⟨_,_,x,rfl,h2.stay hstay,h3.box hk' (by decide),(kp.trans h4).own low hkH lk⟩
end Go.Lite
/-
  The reference's small functions: stop, plain, truth, constant, look, kept.
-/
namespace Go.Lite
open Go Go.Proofs
theorem stop50:Ev fun n=>∀ F km H bs (k:Int) (t:Str) (s:S),HLow H→H.t.get km=some (mRow F s.steps s.uses 0 [])→k≠0→GiveQ F km H bs (qB P5 n 54 [.ptr (.new km) 0,.int .i64 k,.str t] H) (.stop k t s):=by
 refine Ev.succ ((Ev.ge 3).mono fun n hn F km H bs k t s low g hk=> ?_)
 rw[qG (P:=P5) (sf:=c54) rfl (aAP _ _) rfl rfl]
 have lk:=low.lt g
 have nk:¬km=H.n:=by omega
 have nk':¬H.n=km:=by omega
 simp only[mRow]at g
 simp -implicitDefEqProofs only[c54,↓qA,ZZ,seval,CL,g,nk,nk']
 have k1:KeepQ H (H.push (.row [AV.int .i64 0,.str [],.nilp,.nilp,.int .i64 0,.str [],.nils,.nils,.nils,.nils] 0 false (some 88))):=HKeep.push low
 have g1:(H.push (.row [AV.int .i64 0,.str [],.nilp,.nilp,.int .i64 0,.str [],.nils,.nils,.nils,.nils] 0 false (some 88))).t.get km=some (.row [.int .i64 s.steps,.int .i64 s.uses,.int .i64 F,.int .i64 0,.str [],.int .i64 0] 0 false (some 83)):=by rw[qF,if_neg nk];exact g
 have k2:=k1.trans (KeepQ.cell g1 (.inr rfl) (low.push) (ob:=mRow F s.steps s.uses k t))
 refine⟨_,_,_,_,_,_,_,_,_,_,_,rfl,⟨⟨⟨rfl,_,rfl⟩,⟨rfl,_,rfl⟩,rfl,rfl,rfl⟩,rfl,rfl,rfl,rfl,rfl⟩,⟨?_,?_,hk⟩,?_⟩
 · exact((low.push).put (by rw[h_n];omega)).put (by simp only[zO,h_n];omega)
 · rw[qD,if_neg nk,qD,if_pos rfl];rfl
 · exact k2.own low (Nat.le_refl _) (by simp only[zO,h_n];omega)
theorem plain58:Ev fun n=>∀ (k:Int) c1 c2 c3 c4 c5 c6 c7 c8 c9 H,qB P5 n 62 [.agg [.int .i64 k,c1,c2,c3,c4,c5,c6,c7,c8,c9]] H=some (.ret (.bool (decide (1≤k∧k≤4))),H.push (.row [.int .i64 k,c1,c2,c3,c4,c5,c6,c7,c8,c9] 0 false (some 88))):=by
 refine Ev.succ ((Ev.ge 3).mono fun n hn k c1 c2 c3 c4 c5 c6 c7 c8 c9 H=> ?_)
 rw[qG (P:=P5) (sf:=c62) rfl (aEh _ _) rfl rfl]
 by_cases h1:1≤k
 · by_cases h4:k≤4
   · rw[decide_eq_true (⟨h1,h4⟩:1≤k∧k≤4)]
     simp -implicitDefEqProofs only[c62,↓qA,ZZ,seval,CL,h1,h4,ge_iff_le]
   · have h:¬(1≤k∧k≤4):=by omega
     rw[decide_eq_false h]
     simp -implicitDefEqProofs only[c62,↓qA,ZZ,seval,CL,h1,h4,ge_iff_le]
 · have h:¬(1≤k∧k≤4):=by omega
   rw[decide_eq_false h]
   simp -implicitDefEqProofs only[c62,↓qA,ZZ,seval,CL,h1,ge_iff_le]
def kZ (b:Bool):List AV:=[.int .i64 2,.str (if b then a2K else sM),.nilp,.nilp,.int .i64 0,.str [],E0,E0,E0,E0]
def yR (k:Int) (t:Str):List AV:=[.int .i64 (xK k t).kind,.str (xK k t).text,.nilp,.nilp,.int .i64 0,.str [],E0,E0,E0,E0]
theorem truth66:Ev fun n=>∀ (b:Bool) H,qB P5 n 81 [.bool b] H=some (.ret (.agg (kZ b)),H):=by
 refine Ev.succ ((Ev.ge 3).mono fun n hn b H=> ?_)
 rw[qB]
 simp only[show P5.own 81=none from rfl,show P5.code 81=some c81 from aDE _ _,show P5.mode 81=2 from rfl]
 cases b<;>simp -implicitDefEqProofs only[c81,↓qA,ZZ,seval,CL,opened,xJ,kZ,a2K,sM,E0,show Nat.ble 1 6=true from rfl,Bool.false_eq_true]
theorem const57:Ev fun n=>∀ (k:Int) (t:Str) (ns:List Str) (a:List X) H,qB P5 n 61 [.agg [.int .i64 k,.str t,qE ns,vXs a]] H=some (.ret (.agg (yR k t)),H):=by
 refine Ev.succ ((Ev.ge 3).mono fun n hn k t ns a H=> ?_)
 rw[qB]
 simp only[show P5.own 61=none from rfl,show P5.code 61=some c61 from aEl _ _,show P5.mode 61=2 from rfl]
 by_cases h1:k=1
 · subst h1
   simp -implicitDefEqProofs only[c61,↓qA,ZZ,seval,CL,XS,opened,xJ,yR,xK,V.kind,V.text,E0,show Nat.ble 1 21=true from rfl]
 by_cases h2:k=2
 · subst h2
   simp -implicitDefEqProofs only[c61,↓qA,ZZ,seval,CL,XS,opened,xJ,yR,xK,V.kind,V.text,E0,show Nat.ble 1 21=true from rfl,Int.reduceBEq,Int.reduceEq]
 by_cases h4:k=4
 · subst h4
   simp -implicitDefEqProofs only[c61,↓qA,ZZ,seval,CL,XS,opened,xJ,yR,xK,V.kind,V.text,E0,show Nat.ble 1 21=true from rfl,Int.reduceBEq,Int.reduceEq]
 have b1:(k==1)=false:=by simpa using h1
 have b2:(k==2)=false:=by simpa using h2
 have b4:(k==4)=false:=by simpa using h4
 simp -implicitDefEqProofs only[c61,↓qA,ZZ,seval,CL,XS,opened,xJ,yR,xK,V.kind,V.text,E0,show Nat.ble 1 21=true from rfl,b1,b2,b4,if_neg h1,if_neg h2,if_neg h4,zD]
theorem sI {H:Heap}{bs:List Nat}(b:Bool):ValZ H bs (zC b) (kZ b):=
 ⟨_,rfl,by decide,by decide,⟨by cases b<;>decide,fun h=>by cases h⟩,.inr rfl⟩
theorem a1j {H:Heap}{bs:List Nat}{k:Int}{t:Str}(h:bW k t):ValZ H bs (xK k t) (yR k t):=by
 unfold yR xK
 by_cases h1:k=1
 · subst h1;exact⟨_,rfl,by decide,by decide,h,.inr rfl⟩
 by_cases h2:k=2
 · subst h2;exact⟨_,rfl,by decide,by decide,h,.inr rfl⟩
 by_cases h4:k=4
 · subst h4;exact⟨_,rfl,by decide,by decide,h,.inr rfl⟩
 simp only[if_neg h1,if_neg h2,if_neg h4]
 exact⟨_,rfl,by decide,by decide,⟨by decide,fun h=>by cases h⟩,.inr rfl⟩
/-! ### Names -/
def aB2:List AV:=[.int .i64 2,.int .i64 0,.str [],.nils,.nils,.nils,.int .i64 3,.str [40,41],.nilp,.nilp,.int .i64 0,.str [],.nils,.nils,.nils,.nils]
set_option maxHeartbeats 1000000 in
theorem a2L {call:xG}{n:Nat}{H:Heap}{bs:List Nat}{name:Str}{ev:AV}{E:Env}(he:EnvZ H bs E ev) (hE:E.length≤4611686018427387904) {KK:Ex→Fr→Heap→R}{P:R→Prop}:∀ (env pre:Env),pre++env=E→∀ (m:Nat) (fr:Fr),env.length<m→fr 0=ev→fr 1= .str name→fr 5= .int .i64 env.length→
 (∀ p c fr',env.find? (fun p=>p.1==name)=some p→PC bs p.2 c→fr' 4=c→P (KK .ret fr' H))→(∀ fr',env.find? (fun p=>p.1==name)=none→P (KK (.exit 0) fr' H))→P (zQ call n a1F m fr H KK)
 | [],pre,hpre,m,fr,hm,r0,r1,r5,hF,hN=>by
   obtain⟨m,rfl⟩:∃ k,m=k+1:=⟨m-1,by simp at hm;omega⟩
   rw[qX]
   have hgt:¬((0:Nat):Int)>0:=by omega
   rw[List.length_nil]at r5
   simp -implicitDefEqProofs only[a1F,↓qA,ZZ,seval,r0,r1,r5,hgt]
   exact hN _ rfl
 | p :: env, pre, hpre, m, fr, hm, r0, r1, r5, hF, hN => by
   obtain⟨m,rfl⟩:∃ k,m=k+1:=⟨m-1,by simp at hm;omega⟩
   rw[qX]
   rw[List.length_cons]at r5 hm
   have hlen:env.length<E.length:=by rw[←hpre,List.length_append,List.length_cons];omega
   have hgt:((env.length+1:Nat):Int)>0:=by omega
   have hw:IntKind.i64.wrap (((env.length+1:Nat):Int)-1)=((env.length:Nat):Int):=by rw[wrap64 (by omega) (by omega)];omega
   have he':=he
   obtain⟨k,cells,es,c0,ty,rfl,hes,h0,g,hty,hb⟩:=he'
   have hat:E.reverse[env.length]? = some p:=by
    rw[←hpre,List.reverse_append,List.reverse_cons,List.getElem?_append_left (by simp),List.getElem?_append_right (by simp)]
    simp
   obtain⟨a1,c,a2,a3⟩:=hb.get hat
   obtain⟨nm,i⟩:=p
   by_cases hnm:nm=name
   · subst hnm
     simp -implicitDefEqProofs only[a1F,↓qA,ZZ,seval,r0,r1,r5,hgt,hw,jL,hlen,g,a1,a2,Nat.zero_add]
     exact hF (nm,i) c _ (by simp) a3 rfl
   · have hbq:(nm==name)=false:=by simpa using hnm
     simp -implicitDefEqProofs only[a1F,↓qA,ZZ,seval,r0,r1,r5,hgt,hw,jL,hlen,g,a1,a2,hbq,Nat.zero_add]
     refine a2L he hE env (pre++[(nm,i)]) (by simpa using hpre) m _ (by omega) r0 r1 rfl ?_ ?_
     · intro p c fr' h1 h2 h3
       exact hF p c fr' (by rw[List.find?_cons,hbq];exact h1) h2 h3
     · intro fr' h1
       exact hN fr' (by rw[List.find?_cons,hbq];exact h1)
def aBt (H:Heap) (bs:List Nat) (env:Env) (name:Str) (r:R):Prop:=
 (∃ p c,env.find? (fun p=>p.1==name)=some p∧PC bs p.2 c∧r=some (.ret c,H))∨(env.find? (fun p=>p.1==name)=none∧r=some (.ret (.ptr (.new H.n) 0),H.push (.row aB2 0 false (some 126))))
theorem a98 (env:Env) (name:Str) (hE:env.length≤1000000000):Ev fun n=>∀ H bs ev,EnvZ H bs env ev→aBt H bs env name (qB P5 n 56 [ev,.str name] H):=by
 refine Ev.succ ((Ev.ge (env.length+3)).mono fun n hn H bs ev he=> ?_)
 rw[qG (P:=P5) (sf:=c56) rfl (aE7 _ _) rfl rfl]
 have hl:=he.len
 simp -implicitDefEqProofs only[c56,↓qA,ZZ,seval,CL,hl]
 refine a2L (P:=aBt H bs env name) he (by omega) env [] rfl n _ (by omega) rfl rfl rfl ?_ ?_
 · intro p c fr' h1 h2 h3
   simp -implicitDefEqProofs only[↓qA,ZZ,seval,h3]
   exact .inl ⟨p,c,h1,h2,rfl⟩
 · intro fr' h1
   simp -implicitDefEqProofs only[↓qA,ZZ,seval]
   exact .inr ⟨h1,rfl⟩
end Go.Lite
/-
  The reference's arguments' cells; what goes on behind an end.
-/
namespace Go.Lite
open Go Go.Proofs
def a3J (H:Heap) (bs:List Nat) (e:X) (env:Env) (ev:AV) (r:R):Prop:=∃ row,
 (∃ i c,(∀ s,argA e env s=(i,s))∧PC bs i c∧r=some (.ret c,H.push (.row row 0 false (some 28))))∨
 (∃ cc cs,(∀ s,argA e env s=s.new cc)∧(∀ H2,EnvZ H2 bs env ev→CellZ H2 bs cc cs)∧r=some (.ret (.ptr (.new (H.n+1)) 0),(H.push (.row row 0 false (some 28))).push (.row cs 0 false (some 126))))
theorem a0k {H:Heap}{bs:List Nat}:CellZ H bs (.done (.atom 3 zD)) aB2:=
 ⟨[.int .i64 3,.str [40,41],.nilp,.nilp,.int .i64 0,.str [],.nils,.nils,.nils,.nils],_,_,_,_,_,rfl,_,rfl,by decide,by decide,⟨by decide,fun h=>by cases h⟩,.inl rfl⟩
set_option maxHeartbeats 1000000 in
theorem a6E (e:X) (env:Env) (ht:Room e env):Ev fun n=>∀ H bs ev,HLow H→EnvZ H bs env ev→a3J H bs e env ev (qB P5 n 57 [e.v,ev] H):=by
 obtain⟨k,t,ns,a⟩:=e
 refine Ev.succ (((a98 env t ht.le).and (const57.and ((aET (.mk k t ns a)).and (Ev.ge 3)))).mono fun n hn H bs ev low he=> ?_)
 obtain⟨e52,e57,e48,hn⟩:=hn
 rw[qG (P:=P5) (sf:=c57) rfl (aEd _ _) rfl rfl]
 rw[X.v_mk]at e48 ⊢
 have fe:=he.flat
 have k1:KeepQ H (H.push (.row [.int .i64 k,.str t,qE ns,vXs a] 0 false (some 28))):=HKeep.push low
 have he1:=he.stay k1.stayQ
 by_cases h5:k=5
 · subst h5
   rcases e52 _ bs ev he1 with⟨p,c,h1,h2,h3⟩|⟨h1,h3⟩
   · simp -implicitDefEqProofs only[c57,↓qA,ZZ,seval,CL,XS,h3]
     exact⟨_,.inl ⟨p.2,c,fun s=>by simp[argA,kI,h1],h2,rfl⟩⟩
   · simp -implicitDefEqProofs only[c57,↓qA,ZZ,seval,CL,XS,h3]
     exact⟨_,.inr ⟨.done (.atom 3 zD),aB2,fun s=>by simp[argA,kI,h1],fun H2 _=>a0k,rfl⟩⟩
 have b5:(k==5)=false:=by simpa using h5
 by_cases h14:1≤k∧k≤4
 · have hk:uS k=true:=by unfold uS;simp;omega
   have e57':=fun H=>e57 k t ns a H
   have hc:=fun H2=>a1j (H:=H2) (bs:=bs) ht.1.1
   unfold yR at hc e57'
   simp only[E0]at hc e57'
   simp -implicitDefEqProofs only[c57,↓qA,ZZ,seval,CL,XS,b5,e57',e48,X.atom,hk]
   exact⟨_,.inr ⟨.done (xK k t),_,fun s=>by simp only[argA,if_neg h5,if_pos h14],fun H2 _=>⟨_,_,_,_,_,_,rfl,hc H2⟩,rfl⟩⟩
 · have hk:uS k=false:=by unfold uS;simp;omega
   simp -implicitDefEqProofs only[c57,↓qA,ZZ,seval,CL,XS,b5,e48,X.atom,hk,fe]
   exact⟨_,.inr ⟨.wait (.mk k t ns a) env,_,fun s=>by simp only[argA,if_neg h5,if_neg h14],fun H2 h=>⟨ev,rfl,ht,h⟩,rfl⟩⟩
def aDK (F km d:Nat) (V H:Heap) (bs:List Nat) (r:R) (q:Nat×S):Prop:=Gives r fun cv H'=>∃ V' x,StZ F km V' (bs++x) q.2 d∧PC (bs++x) q.1 cv∧View V' H'∧KeepQ V V'∧KeepQ H H'∧Bare V V'
theorem a2V {F km d:Nat}{V H:Heap}{bs:List Nat}{e:X}{env:Env}{ev:AV}{s:S}{r:R}(h:a3J H bs e env ev r) (he:EnvZ V bs env ev) (low:HLow H) (vw:View V H) (st:StZ F km V bs s d):aDK F km d V H bs r (argA e env s):=by
 obtain⟨row,⟨i,c,h1,h2,rfl⟩|⟨cc,cs,h1,h2,rfl⟩⟩:=h
 · refine⟨_,_,rfl,V.push (.row row 0 false (some 28)),[],?_,?_,vw.push,HKeep.push st.low,HKeep.push low,Bare.push⟩
   · rw[h1,List.append_nil];exact st.push
   · rw[h1,List.append_nil];exact h2
 · have st1:=st.push (ob:= .row row 0 false (some 28))
   refine⟨_,_,rfl,(V.push (.row row 0 false (some 28))).push (.row cs 0 false (some 126)),[V.n+1],?_,?_,vw.push.push,(HKeep.push st.low).pushed st.low,(HKeep.push low).pushed low,Bare.push.trans Bare.push (by rw[h_n];omega)⟩
   · rw[h1]
     exact st1.new (h2 _ (he.stay (StayQ.push st.low)))
   · rw[h1,show(S.new s cc).1=bs.length from st.len.symm,←vw.n]
     exact PC.new
/-! ### Behind an end -/
def Over (F km st us:Nat) (k:Int) (t:Str) (H:Heap):Prop:=HLow H∧H.t.get km=some (mRow F st us k t)∧k≠0
theorem a3E (e:X):Ev fun n=>∀ F km st us k t H ev,Over F km st us k t H→qB P5 n 29 [.ptr (.new km) 0,e.v,ev] H=some (.ret (.agg [AV.int .i64 0,.str [],.nilp,.nilp,.int .i64 0,.str [],.nils,.nils,.nils,.nils]),(H.push (.row e.cells 0 false (some 28))).push (.row [AV.int .i64 0,.str [],.nilp,.nilp,.int .i64 0,.str [],.nils,.nils,.nils,.nils] 0 false (some 88)) |>.put (H.n+1) (.row [AV.int .i64 0,.str [],.nilp,.nilp,.int .i64 0,.str [],.nils,.nils,.nils,.nils] 0 false (some 88))):=by
 obtain⟨ek,et,en,ea⟩:=e
 refine Ev.succ ((Ev.ge 3).mono fun n hn F km st us k t H ev ⟨low,g,hk⟩=> ?_)
 rw[qG (P:=P5) (sf:=c29) rfl (bR _ _) rfl rfl]
 rw[X.v_mk,X.cells_mk]
 have lk:=low.lt g
 have n0:¬km=H.n:=by omega
 have n1:¬km=H.n+1:=by omega
 have hb:(k != 0)=true:=by simpa using hk
 simp only[mRow]at g
 simp -implicitDefEqProofs only[c29,↓qA,ZZ,seval,CL,XS,g,n0,n1,hb]
theorem apply_over:Ev fun n=>∀ F km st us k t H c0 c1 c2 c3 c4 c5 c6 c7 c8 c9 lv m,Over F km st us k t H→lenM lv=some (.int .i64 (m:Nat))→((c0.flat=true∧c1.flat=true∧c2.flat=true∧c3.flat=true∧c4.flat=true)∧c5.flat=true∧c6.flat=true∧c7.flat=true∧c8.flat=true∧c9.flat=true)→qB P5 n 58 [.ptr (.new km) 0,.agg [c0,c1,c2,c3,c4,c5,c6,c7,c8,c9],lv] H=some (.ret (.agg [c0,c1,c2,c3,c4,c5,c6,c7,c8,c9]),(H.push (.row [c0,c1,c2,c3,c4,c5,c6,c7,c8,c9] 0 false (some 88))).push (.row [AV.int .i64 0,.str [],.nilp,.nilp,.int .i64 0,.str [],.nils,.nils,.nils,.nils] 0 false (some 88)) |>.put (H.n+1) (.row [c0,c1,c2,c3,c4,c5,c6,c7,c8,c9] 0 false (some 88))):=by
 refine Ev.succ ((Ev.ge 3).mono fun n hn F km st us k t H c0 c1 c2 c3 c4 c5 c6 c7 c8 c9 lv m ⟨low,g,hk⟩ hm ⟨⟨f0,f1,f2,f3,f4⟩,f5,f6,f7,f8,f9⟩=> ?_)
 rw[qG (P:=P5) (sf:=c58) rfl (aBK _ _) rfl rfl]
 have lk:=low.lt g
 have n0:¬km=H.n:=by omega
 have n1:¬km=H.n+1:=by omega
 have hb:(k==0)=false:=by simpa using hk
 simp only[mRow]at g
 obtain⟨n,rfl⟩:∃ j,n=j+1:=⟨n-1,by omega⟩
 simp -implicitDefEqProofs only[c58,↓qA,ZZ,seval,CL]
 rw[qX]
 by_cases hm0:((m:Nat):Int)>0
 · simp -implicitDefEqProofs only[pV,↓qA,ZZ,seval,CL,hm,hm0,g,n0,n1,hb,f0,f1,f2,f3,f4,f5,f6,f7,f8,f9]
 · simp -implicitDefEqProofs only[pV,↓qA,ZZ,seval,CL,hm,hm0,g,n0,n1,hb,f0,f1,f2,f3,f4,f5,f6,f7,f8,f9]
end Go.Lite
/-
  The reference's cell's value.
-/
namespace Go.Lite
open Go Go.Proofs
theorem EndQ.box {F km:Nat}{H:Heap}{k:Int}{t:Str}{s:S}(h:EndQ F km H k t s) {j u:Nat}{cs:List AV}{es:Nat}{fz:Bool}{ob:Obj}(hj:H.t.get j=some (.row cs es fz (some u))) (hu:u≠83):EndQ F km (H.put j ob) k t s:=
 ⟨h.low.put (h.low.lt hj),by
  rw[qD,if_neg]
  · exact h.m
  · rintro rfl
    rw[h.m]at hj
    simp only[mRow,Option.some.injEq,Obj.row.injEq]at hj
    exact hu hj.2.2.2.symm,h.ne⟩
theorem EndQ.push {F km:Nat}{H:Heap}{k:Int}{t:Str}{s:S}(h:EndQ F km H k t s) {ob:Obj}:EndQ F km (H.push ob) k t s:=
 ⟨h.low.push,by rw[qF,if_neg (by have:=h.low.lt h.m;omega)];exact h.m,h.ne⟩
theorem EndQ.over {F km:Nat}{H:Heap}{k:Int}{t:Str}{s:S}(h:EndQ F km H k t s):Over F km s.steps s.uses k t H:=⟨h.low,h.m,h.ne⟩
theorem CellZ.len {H:Heap}{bs:List Nat}{c:C}{cs:List AV}(h:CellZ H bs c cs):cs.length=16:=by
 cases c with
 | wait e env=>cases e;obtain⟨ev,rfl,h0,h2⟩:=h;rfl
 | busy e env=>cases e;obtain⟨ev,rfl,h0,h2⟩:=h;rfl
 | done v=>
   obtain⟨vs,d0,d1,d2,d3,d4,rfl,h2⟩:=h
   obtain⟨t,c2,c3,c4,c5,c6,c7,c8,c9,rfl,_⟩:=h2.ten
   rfl
theorem aE2 {cs:List AV}(h:cs.length=16):∃ a0 a1 a2 a3 a4 a5 a6 a7 a8 a9 a10 a11 a12 a13 a14 a15,cs=[a0,a1,a2,a3,a4,a5,a6,a7,a8,a9,a10,a11,a12,a13,a14,a15]:=by
 match cs,h with
 | [a0,a1,a2,a3,a4,a5,a6,a7,a8,a9,a10,a11,a12,a13,a14,a15],_=>exact⟨a0,a1,a2,a3,a4,a5,a6,a7,a8,a9,a10,a11,a12,a13,a14,a15,rfl⟩
set_option maxHeartbeats 4000000 in
theorem aCh {F m : Nat} (ih : EvalQ F m) : bJ F (m + 1) := by
 intro c s o ho
 rw[qP]at ho
 have key : Ev fun n => match s.cells[c]? with
  | some (.wait e env)=>∀ p,evalA F m e env (s.set c (.busy e env)).used=some p→Room e env→∀ km H bs ev,StZ F km H bs (s.set c (.busy e env)).used 1→EnvZ H bs env ev→GiveQ F km H bs (qB P5 n 29 [.ptr (.new km) 0,e.v,ev] H) p
  | _=>True:=by
  cases hc:s.cells[c]? with
  | none=>exact Ev.of fun n=>trivial
  | some cc=>
    cases cc with
    | wait e env=>
      by_cases hx:∃ p,evalA F m e env (s.set c (.busy e env)).used=some p
      · obtain⟨p,hp⟩:=hx
        by_cases ht:Room e env
        · refine(ih e env _ p ht hp).mono fun n hn p' h _=> ?_
          obtain rfl:p=p':=Option.some.inj (hp.symm.trans h)
          exact hn
        · exact Ev.of fun n p h hh=>absurd hh ht
      · exact Ev.of fun n p h=>absurd ⟨p,h⟩ hx
    | busy e env=>exact Ev.of fun n=>trivial
    | done v=>exact Ev.of fun n=>trivial
 refine Ev.succ ((key.and (stop50.and (Ev.ge 3))).mono fun n hn km H bs cv st hcv=> ?_)
 obtain⟨hkey,e50,hn⟩:=hn
 obtain⟨b,hb,rfl⟩:=hcv
 obtain⟨cc,cs,hcc,gb,hcr⟩:=st.at hb
 have gm:=st.m
 rw[hcc]at ho hkey
 have lb:=st.low.lt gb
 have lm:=st.low.lt gm
 have nb:¬b=H.n:=by omega
 have nm:¬km=H.n:=by omega
 have nb':¬H.n=b:=by omega
 have nm':¬H.n=km:=by omega
 have nbm:¬b=km:=yJ gb gm (by decide)
 have nmb:¬km=b:=fun h=>nbm h.symm
 have nb1:¬b=H.n+1:=by omega
 have nb1':¬H.n+1=b:=by omega
 rw[qG (P:=P5) (sf:=c55) rfl (aDA _ _) rfl rfl]
 have kp:KeepQ H (H.push (.row [AV.int .i64 0,.str [],.nilp,.nilp,.int .i64 0,.str [],.nils,.nils,.nils,.nils] 0 false (some 88))):=HKeep.push st.low
 have st1:=st.push (ob:= .row [AV.int .i64 0,.str [],.nilp,.nilp,.int .i64 0,.str [],.nils,.nils,.nils,.nils] 0 false (some 88))
 have gr1:(H.push (.row [AV.int .i64 0,.str [],.nilp,.nilp,.int .i64 0,.str [],.nils,.nils,.nils,.nils] 0 false (some 88))).t.get H.n=some (.row [AV.int .i64 0,.str [],.nilp,.nilp,.int .i64 0,.str [],.nils,.nils,.nils,.nils] 0 false (some 88)):=by rw[qF,if_pos rfl]
 cases cc with
 | done v=>
   simp only[Option.some.injEq]at ho
   subst ho
   obtain⟨vs,d0,d1,d2,d3,d4,rfl,hv⟩:=hcr
   obtain⟨t,c2,c3,c4,c5,c6,c7,c8,c9,rfl,_,_,_,⟨f2,f3,f4,f5⟩,⟨f6,f7,f8,f9⟩⟩:=hv.ten
   simp only[List.cons_append,List.nil_append]at gb
   simp -implicitDefEqProofs only[c55,↓qA,ZZ,seval,CL,gb,nb,nb',f2,f3,f4,f5,f6,f7,f8,f9]
   exact kW (st1.box gr1 (by decide)) (hv.stay (kp.stayQ.trans (StayQ.put gr1 (by decide) (by decide)))) (kp.own st.low (j:=H.n) (Nat.le_refl _) (by rw[h_n];omega))
 | busy e env=>
   simp only[Option.some.injEq]at ho
   subst ho
   obtain⟨ek,et,en,ea⟩:=e
   obtain⟨ev,rfl,ht,he⟩:=hcr
   simp only[List.cons_append,List.nil_append]at gb
   have hg:=e50 F km _ bs 3 [] s st1.low st1.m (by decide)
   simp -implicitDefEqProofs only[c55,↓qA,ZZ,seval,CL,gb,nb,nb',Int.reduceBEq]
   refine xH hg kp st.low (Nat.le_refl _) gr1 rfl rfl (by decide) ?_
   intro fr' H' cs hb hk hl
   simp -implicitDefEqProofs only[↓qA,ZZ,seval,hb,hk,hl,List.take_of_length_le (Nat.le_of_eq hl)]
 | wait e env =>
   simp only[]at ho hkey
   obtain⟨p,hp,ho⟩:=Option.bind_eq_some_iff.1 ho
   obtain⟨ek,et,en,ea⟩:=e
   obtain⟨ev,rfl,ht,he⟩:=hcr
   simp only[List.cons_append,List.nil_append]at gb
   have hu:s.uses≤1099511627777:=by have:=st.uses;have:=st.steps;have:=st.small;omega
   have hw:=gT (n:=s.uses) hu
   have hcall:=hkey p hp ht km
   rw[X.v_mk]at hcall
   have st2:=st1.count (st:=s.steps) (us:=s.uses+1) (d':=1) st.steps (by have:=st.uses;omega)
   have k2:KeepQ H _:=kp.trans (KeepQ.cell st1.m (.inr rfl) st1.low (ob:=mRow F s.steps (s.uses+1) 0 []))
   have gb2:((H.push (.row [AV.int .i64 0,.str [],.nilp,.nilp,.int .i64 0,.str [],.nils,.nils,.nils,.nils] 0 false (some 88))).put km (mRow F s.steps (s.uses+1) 0 [])).t.get b=some (.row [.int .i64 0,.int .i64 ek,.str et,qE en,vXs ea,ev,.int .i64 0,.str [],.nilp,.nilp,.int .i64 0,.str [],.nils,.nils,.nils,.nils] 0 false (some 126)):=by
    rw[qD,if_neg nbm,qF,if_neg nb];exact gb
   have st3:=(st2.set (c:= .busy (.mk ek et en ea) env) hb ⟨ev,rfl,ht,he.stay k2.stayQ⟩).push (ob:= .row [AV.int .i64 0,.str [],.nilp,.nilp,.int .i64 0,.str [],.nils,.nils,.nils,.nils] 0 false (some 88))
   have k3:=(k2.trans (KeepQ.cell gb2 (.inl rfl) st2.low (ob:= .row ([.int .i64 1,.int .i64 ek,.str et,qE en,vXs ea,ev]++[AV.int .i64 0,.str [],.nilp,.nilp,.int .i64 0,.str [],.nils,.nils,.nils,.nils]) 0 false (some 126)))).pushed st.low (ob:= .row [AV.int .i64 0,.str [],.nilp,.nilp,.int .i64 0,.str [],.nils,.nils,.nils,.nils] 0 false (some 88))
   have hg:=hcall _ bs ev st3 (he.stay k3.stayQ)
   have gr3:(((((H.push (.row [AV.int .i64 0,.str [],.nilp,.nilp,.int .i64 0,.str [],.nils,.nils,.nils,.nils] 0 false (some 88))).put km (mRow F s.steps (s.uses+1) 0 [])).put b (.row ([.int .i64 1,.int .i64 ek,.str et,qE en,vXs ea,ev]++[AV.int .i64 0,.str [],.nilp,.nilp,.int .i64 0,.str [],.nils,.nils,.nils,.nils]) 0 false (some 126)))).push (.row [AV.int .i64 0,.str [],.nilp,.nilp,.int .i64 0,.str [],.nils,.nils,.nils,.nils] 0 false (some 88))).t.get H.n=some (.row [AV.int .i64 0,.str [],.nilp,.nilp,.int .i64 0,.str [],.nils,.nils,.nils,.nils] 0 false (some 88)):=by
    rw[qF,if_neg (by simp only[zO,h_n];omega),qD,if_neg nb',qD,if_neg nm',qF,if_pos rfl]
   have gr4:(((((H.push (.row [AV.int .i64 0,.str [],.nilp,.nilp,.int .i64 0,.str [],.nils,.nils,.nils,.nils] 0 false (some 88))).put km (mRow F s.steps (s.uses+1) 0 [])).put b (.row ([.int .i64 1,.int .i64 ek,.str et,qE en,vXs ea,ev]++[AV.int .i64 0,.str [],.nilp,.nilp,.int .i64 0,.str [],.nils,.nils,.nils,.nils]) 0 false (some 126)))).push (.row [AV.int .i64 0,.str [],.nilp,.nilp,.int .i64 0,.str [],.nils,.nils,.nils,.nils] 0 false (some 88))).t.get (H.n+1)=some (.row [AV.int .i64 0,.str [],.nilp,.nilp,.int .i64 0,.str [],.nils,.nils,.nils,.nils] 0 false (some 88)):=by
    rw[qF,if_pos (by simp only[zO,h_n])]
   simp only[mRow,List.cons_append,List.nil_append]at gm hg gr3 gr4
   have nmn:¬km=H.n+1:=by omega
   have n01:¬H.n=H.n+1:=by omega
   have n10:¬H.n+1=H.n:=by omega
   cases p with
   | stop kk tt s'=>
     obtain rfl:=(Option.some.inj ho).symm
     obtain⟨e0,e1,e2,e3,e4,e5,e6,e7,e8,e9,H4,q1,⟨⟨f0,f1,f2,f3,f4⟩,f5,f6,f7,f8,f9⟩,q3,q4⟩:=hg
     have gm4:=q3.m
     have g0:=q4.get _ _ gr3 (qR (by decide) (by decide))
     have g1:=q4.get _ _ gr4 (qR (by decide) (by decide))
     have m0:¬km=H.n:=nm
     have hne:(kk != 0)=true:=by simpa using q3.ne
     simp only[mRow]at gm4
     simp -implicitDefEqProofs only[c55,↓qA,ZZ,seval,CL,gb,gm,nb,nb',nm,nm',nbm,nmb,nb1,nb1',nmn,n01,n10,hw,q1,gm4,g0,g1,hne,f0,f1,f2,f3,f4,f5,f6,f7,f8,f9,Int.reduceBEq]
     have ee:=q3.box g1 (by decide) (ob:= .row [e0,e1,e2,e3,e4,e5,e6,e7,e8,e9] 0 false (some 88))
     have g0':(H4.put (H.n+1) (.row [e0,e1,e2,e3,e4,e5,e6,e7,e8,e9] 0 false (some 88))).t.get H.n=some (.row [AV.int .i64 0,.str [],.nilp,.nilp,.int .i64 0,.str [],.nils,.nils,.nils,.nils] 0 false (some 88)):=by rw[qD,if_neg n01];exact g0
     exact⟨e0,e1,e2,e3,e4,e5,e6,e7,e8,e9,_,rfl,⟨⟨f0,f1,f2,f3,f4⟩,f5,f6,f7,f8,f9⟩,ee.box g0' (by decide),(((k3.trans q4).own st.low (by omega) (q3.low.lt g1)).own st.low (Nat.le_refl _) (ee.low.lt g0'))⟩
   | val v s'=>
     obtain rfl:=(Option.some.inj ho).symm
     obtain⟨vs,H4,x,q1,q2,q3,q4⟩:=hg
     obtain⟨t,c2,c3,c4,c5,c6,c7,c8,c9,rfl,_,_,_,⟨f2,f3,f4,f5⟩,⟨f6,f7,f8,f9⟩⟩:=q2.ten
     have hb4:(bs++x)[c]? = some b:=by rw[List.getElem?_append_left (List.getElem?_eq_some_iff.1 hb).1];exact hb
     obtain⟨cc4,cs4,hc4,gb4,hcr4⟩:=q3.at hb4
     obtain⟨a0,a1,a2,a3,a4,a5,a6,a7,a8,a9,a10,a11,a12,a13,a14,a15,rfl⟩:=aE2 hcr4.len
     have gm4:=q3.m
     have g0:=q4.get _ _ gr3 (qR (by decide) (by decide))
     have g1:=q4.get _ _ gr4 (qR (by decide) (by decide))
     have kk:=k3.trans q4
     have st5:=q3.box g1 (by decide) (ob:= .row [.int .i64 v.kind,.str t,c2,c3,c4,c5,c6,c7,c8,c9] 0 false (some 88))
     have sy5:StayQ H4 (H4.put (H.n+1) (.row [.int .i64 v.kind,.str t,c2,c3,c4,c5,c6,c7,c8,c9] 0 false (some 88))):=StayQ.put g1 (by decide) (by decide)
     have st6:=st5.set (c:= .done v) hb4 (cs:=[.int .i64 2,a1,a2,a3,a4,a5]++[.int .i64 v.kind,.str t,c2,c3,c4,c5,c6,c7,c8,c9]) ⟨_,a1,a2,a3,a4,a5,rfl,q2.stay sy5⟩
     have gb5:(H4.put (H.n+1) (.row [.int .i64 v.kind,.str t,c2,c3,c4,c5,c6,c7,c8,c9] 0 false (some 88))).t.get b=some (.row [a0,a1,a2,a3,a4,a5,a6,a7,a8,a9,a10,a11,a12,a13,a14,a15] 0 false (some 126)):=by rw[qD,if_neg nb1];exact gb4
     have sy6:=StayQ.put gb5 (by decide) (by decide) (ob:= .row ([.int .i64 2,a1,a2,a3,a4,a5]++[.int .i64 v.kind,.str t,c2,c3,c4,c5,c6,c7,c8,c9]) 0 false (some 126))
     have g06:((H4.put (H.n+1) (.row [.int .i64 v.kind,.str t,c2,c3,c4,c5,c6,c7,c8,c9] 0 false (some 88))).put b (.row ([.int .i64 2,a1,a2,a3,a4,a5]++[.int .i64 v.kind,.str t,c2,c3,c4,c5,c6,c7,c8,c9]) 0 false (some 126))).t.get H.n=some (.row [AV.int .i64 0,.str [],.nilp,.nilp,.int .i64 0,.str [],.nils,.nils,.nils,.nils] 0 false (some 88)):=by rw[qD,if_neg nb',qD,if_neg n01];exact g0
     have st7:=st6.box g06 (by decide) (ob:= .row [.int .i64 v.kind,.str t,c2,c3,c4,c5,c6,c7,c8,c9] 0 false (some 88))
     have sy7:=StayQ.put g06 (by decide) (by decide) (ob:= .row [.int .i64 v.kind,.str t,c2,c3,c4,c5,c6,c7,c8,c9] 0 false (some 88))
     have k5:=kk.own st.low (by omega) (q3.low.lt g1) (ob:= .row [.int .i64 v.kind,.str t,c2,c3,c4,c5,c6,c7,c8,c9] 0 false (some 88))
     have k6:=k5.trans (KeepQ.cell gb5 (.inl rfl) st5.low (ob:= .row ([.int .i64 2,a1,a2,a3,a4,a5]++[.int .i64 v.kind,.str t,c2,c3,c4,c5,c6,c7,c8,c9]) 0 false (some 126)))
     have k7:=k6.own st.low (Nat.le_refl _) (st6.low.lt g06) (ob:= .row [.int .i64 v.kind,.str t,c2,c3,c4,c5,c6,c7,c8,c9] 0 false (some 88))
     simp only[mRow]at gm4
     simp -implicitDefEqProofs only[c55,↓qA,ZZ,seval,CL,gb,gm,nb,nb',nm,nm',nbm,nmb,nb1,nb1',nmn,n01,n10,hw,q1,gm4,gb4,g0,g1,f2,f3,f4,f5,f6,f7,f8,f9,Int.reduceBEq,Int.reduceBNe]
     have hsame:∀ j,(((((H4.put (H.n+1) (.row [.int .i64 v.kind,.str t,c2,c3,c4,c5,c6,c7,c8,c9] 0 false (some 88))).put b (.row [.int .i64 2,a1,a2,a3,a4,a5,a6,a7,a8,a9,a10,a11,a12,a13,a14,a15] 0 false (some 126))).put b (.row [.int .i64 2,a1,a2,a3,a4,a5,.int .i64 v.kind,.str t,c2,c3,c4,c5,c6,c7,c8,c9] 0 false (some 126))).put H.n (.row [.int .i64 v.kind,.str t,c2,c3,c4,c5,c6,c7,c8,c9] 0 false (some 88)))).t.get j=(((H4.put (H.n+1) (.row [.int .i64 v.kind,.str t,c2,c3,c4,c5,c6,c7,c8,c9] 0 false (some 88))).put b (.row ([.int .i64 2,a1,a2,a3,a4,a5]++[.int .i64 v.kind,.str t,c2,c3,c4,c5,c6,c7,c8,c9]) 0 false (some 126))).put H.n (.row [.int .i64 v.kind,.str t,c2,c3,c4,c5,c6,c7,c8,c9] 0 false (some 88))).t.get j:=fun j=>by
      simp only[qD]
      by_cases j1:j=H.n
      · simp only[j1,if_true]
      · by_cases j2:j=b
        · simp only[j1,j2,if_true,if_false];rfl
        · simp only[j1,j2,if_false]
     refine⟨_,_,x,rfl,q2.stay (fun j cs es fz ty g hty=> ?_),st7.same hsame (Nat.le_refl _),⟨k7.n,fun j o g hx=> ?_,fun l=>(st7.same hsame (Nat.le_refl _)).low⟩⟩
     · rw[hsame];exact sy7 _ _ _ _ _ (sy6 _ _ _ _ _ (sy5 _ _ _ _ _ g hty) hty) hty
     · rw[hsame];exact k7.get _ _ g hx
end Go.Lite
/-
  The reference's reckoning of two numbers.
-/
namespace Go.Lite
open Go Go.Proofs
theorem aA1 {H:Heap}{bs:List Nat}{z:Int}(hz:z.natAbs<10^200):ValZ H bs (.atom 1 (decZ z)) [.int .i64 1,.str (decZ z),.nilp,.nilp,.int .i64 0,.str [],.nils,.nils,.nils,.nils]:=
 ⟨_,rfl,by decide,by decide,⟨⟨by have:=uN hz (by omega);omega,a0j z⟩,fun _=>⟨z,hz,rfl⟩⟩,.inl rfl⟩
set_option maxHeartbeats 4000000 in
theorem aAO (op:Str) (x y:Int) (hx:x.natAbs<10^200) (hy:y.natAbs<10^200):Ev fun n=>∀ F km H bs s,StZ F km H bs s 0→GiveQ F km H bs (qB P5 n 82 [.ptr (.new km) 0,.str op,.str (decZ x),.str (decZ y)] H) (y8 op (decZ x) (decZ y) s):=by
 have hq:Ev fun n=>∀ H,qB P5 n 105 [.str (decZ x),.str (decZ y)] H=some (.ret (if y=0 then .tuple [.str [],.str [],.bool false]else .tuple [.str (opZ (x.tdiv y)),.str (opZ (x.tmod y)),.bool true]),H):=by
  by_cases h:y=0
  · subst h
    simp only[if_true]
    exact a6j x hx (by omega)
  · simp only[if_neg h]
    exact aFX x y hx hy (by omega) h
 refine Ev.succ (((aF3 x y hx hy (by omega)).and ((aF8 x y hx hy (by omega)).and ((aGh x y hx hy (by omega)).and ((aFj x y hx hy (by omega)).and (hq.and (truth66.and (stop50.and (Ev.ge 3)))))))).mono fun n hn F km H bs s st=> ?_)
 obtain⟨ea,es,em,ec,eq,e66,e50,hn⟩:=hn
 rw[qG (P:=P5) (sf:=c82) rfl (aFb _ _) rfl rfl]
 have k1:KeepQ H (H.push (.row [AV.int .i64 0,.str [],.nilp,.nilp,.int .i64 0,.str [],.nils,.nils,.nils,.nils] 0 false (some 88))):=HKeep.push st.low
 have st1:=st.push (ob:= .row [AV.int .i64 0,.str [],.nilp,.nilp,.int .i64 0,.str [],.nils,.nils,.nils,.nils] 0 false (some 88))
 have gr1:(H.push (.row [AV.int .i64 0,.str [],.nilp,.nilp,.int .i64 0,.str [],.nils,.nils,.nils,.nils] 0 false (some 88))).t.get H.n=some (.row [AV.int .i64 0,.str [],.nilp,.nilp,.int .i64 0,.str [],.nils,.nils,.nils,.nils] 0 false (some 88)):=by rw[qF,if_pos rfl]
 have hval:∀ (v:V) (cs:List AV),(∀ G,ValZ G bs v cs)→GiveQ F km H bs (some (.ret (.agg cs),(H.push (.row [AV.int .i64 0,.str [],.nilp,.nilp,.int .i64 0,.str [],.nils,.nils,.nils,.nils] 0 false (some 88))).put H.n (.row cs 0 false (some 88)))) (.val v s):=fun v cs hv=>
  kW (st1.box gr1 (by decide)) (hv _) (k1.own st.low (Nat.le_refl _) (by rw[h_n];omega))
 have hnum:∀ z:Int,z.natAbs<10^200→_:=fun z hz=>hval _ _ fun G=>aA1 (H:=G) (bs:=bs) hz
 have htr:=fun b=>hval _ _ fun G=>sI (H:=G) (bs:=bs) b
 unfold kZ at htr e66
 simp only[E0]at htr e66
 have hstop:∀ (k:Int) (t:Str),k≠0→∀ {fr:Fr}{d:Nat}{K:Fr→Heap→R},fr 8= .ptr (.new H.n) 0→8≠d→(∀ fr' H' cs,fr' 8= .ptr (.new H.n) 0→H'.t.get H.n=some (.row cs 0 false (some 88))→cs.length=10→K fr' H'=some (.ret (.agg cs),H'))→
  GiveQ F km H bs (rG (qB P5 n 54 [.ptr (.new km) 0,.int .i64 k,.str t] (H.push (.row [AV.int .i64 0,.str [],.nilp,.nilp,.int .i64 0,.str [],.nils,.nils,.nils,.nils] 0 false (some 88)))) (qB P5 n) (some d) [⟨none,none,.w (.store 10 (.tmp 8) (.tmp d))⟩] fr K) (.stop k t s):=fun k t hk fr d K h8 hd hK=>
  xH (e50 F km _ bs k t s st1.low st1.m hk) k1 st.low (Nat.le_refl _) gr1 rfl h8 hd hK
 unfold y8
 simp only[sS]
 by_cases h1:op=bG
 · subst h1
   unfold opT at ea
   simp only[if_true,numA]
   by_cases hs:(x+y).natAbs<10^200
   · simp only[decide_eq_true hs,opZ,if_pos hs]at ea
     simp -implicitDefEqProofs only[c82,↓qA,ZZ,seval,CL,XS,bG,ea,if_pos hs]
     exact hnum _ hs
   · simp only[decide_eq_false hs,opZ,if_neg hs]at ea
     simp -implicitDefEqProofs only[c82,↓qA,ZZ,seval,CL,XS,bG,ea,if_neg hs]
     refine hstop 7 [] (by decide) rfl (by decide) ?_
     intro fr' H' cs hb hk hl
     simp -implicitDefEqProofs only[↓qA,ZZ,seval,hb,hk,hl,List.take_of_length_le (Nat.le_of_eq hl)]
 have b1:(op==[43])=false:=by simpa[bG]using h1
 simp only[if_neg h1]
 by_cases h2:op=gB
 · subst h2
   unfold opT at es
   simp only[if_true,numA]
   by_cases hs:(x-y).natAbs<10^200
   · simp only[decide_eq_true hs,opZ,if_pos hs]at es
     simp -implicitDefEqProofs only[c82,↓qA,ZZ,seval,CL,XS,gB,es,if_pos hs,show([45]==[43]:Bool)=false from rfl]
     exact hnum _ hs
   · simp only[decide_eq_false hs,opZ,if_neg hs]at es
     simp -implicitDefEqProofs only[c82,↓qA,ZZ,seval,CL,XS,gB,es,if_neg hs,show([45]==[43]:Bool)=false from rfl]
     refine hstop 7 [] (by decide) rfl (by decide) ?_
     intro fr' H' cs hb hk hl
     simp -implicitDefEqProofs only[↓qA,ZZ,seval,hb,hk,hl,List.take_of_length_le (Nat.le_of_eq hl)]
 have b2:(op==[45])=false:=by simpa[gB]using h2
 simp only[if_neg h2]
 by_cases h3:op=wW
 · subst h3
   unfold opT at em
   simp only[if_true,numA]
   by_cases hs:(x*y).natAbs<10^200
   · simp only[decide_eq_true hs,opZ,if_pos hs]at em
     simp -implicitDefEqProofs only[c82,↓qA,ZZ,seval,CL,XS,wW,em,if_pos hs,show([42]==[43]:Bool)=false from rfl,show([42]==[45]:Bool)=false from rfl]
     exact hnum _ hs
   · simp only[decide_eq_false hs,opZ,if_neg hs]at em
     simp -implicitDefEqProofs only[c82,↓qA,ZZ,seval,CL,XS,wW,em,if_neg hs,show([42]==[43]:Bool)=false from rfl,show([42]==[45]:Bool)=false from rfl]
     refine hstop 7 [] (by decide) rfl (by decide) ?_
     intro fr' H' cs hb hk hl
     simp -implicitDefEqProofs only[↓qA,ZZ,seval,hb,hk,hl,List.take_of_length_le (Nat.le_of_eq hl)]
 have b3:(op==[42])=false:=by simpa[wW]using h3
 simp only[if_neg h3]
 have hlt:decide (sgn (x-y)<0)=decide (x<y):=by rw[aAF];exact decide_eq_decide.2 (by omega)
 have heq:(sgn (x-y)==0)=decide (x=y):=by rw[a9Q];exact decide_eq_decide.2 (by omega)
 by_cases h4:op=sD
 · subst h4
   simp only[if_true]
   generalize decide (x<y)=bb at *
   simp -implicitDefEqProofs only[c82,↓qA,ZZ,seval,CL,XS,sD,ec,e66,hlt,show([60]==[43]:Bool)=false from rfl,show([60]==[45]:Bool)=false from rfl,show([60]==[42]:Bool)=false from rfl]
   exact htr _
 have b4:(op==[60])=false:=by simpa[sD]using h4
 simp only[if_neg h4]
 by_cases h5:op=rT
 · subst h5
   simp only[if_true]
   generalize decide (x=y)=bb at *
   simp -implicitDefEqProofs only[c82,↓qA,ZZ,seval,CL,XS,rT,ec,e66,heq,show([61]==[43]:Bool)=false from rfl,show([61]==[45]:Bool)=false from rfl,show([61]==[42]:Bool)=false from rfl,show([61]==[60]:Bool)=false from rfl]
   exact htr _
 have b5:(op==[61])=false:=by simpa[rT]using h5
 simp only[if_neg h5]
 by_cases h0:y=0
 · simp only[if_pos h0]at eq ⊢
   simp -implicitDefEqProofs only[c82,↓qA,ZZ,seval,CL,XS,eq,b1,b2,b3,b4,b5]
   refine hstop 2 _ (by decide) rfl (by decide) ?_
   intro fr' H' cs hb hk hl
   simp -implicitDefEqProofs only[↓qA,ZZ,seval,hb,hk,hl,List.take_of_length_le (Nat.le_of_eq hl)]
 · simp only[if_neg h0]at eq ⊢
   have hdv:(x.tdiv y).natAbs<10^200:=by
    have:=Int.natAbs_tdiv_le_natAbs x y
    omega
   have hmd:(x.tmod y).natAbs<10^200:=by
    rw[Int.natAbs_tmod]
    exact Nat.lt_of_le_of_lt (Nat.mod_le _ _) hx
   simp only[opZ,if_pos hdv,if_pos hmd]at eq
   by_cases h6:op=bX
   · subst h6
     simp only[if_true]
     simp -implicitDefEqProofs only[c82,↓qA,ZZ,seval,CL,XS,eq,bX,show([114,101,109,97,105,110,100,101,114]==[43]:Bool)=false from rfl,show([114,101,109,97,105,110,100,101,114]==[45]:Bool)=false from rfl,show([114,101,109,97,105,110,100,101,114]==[42]:Bool)=false from rfl,show([114,101,109,97,105,110,100,101,114]==[60]:Bool)=false from rfl,show([114,101,109,97,105,110,100,101,114]==[61]:Bool)=false from rfl]
     exact hnum _ hmd
   · have b6:(op==[114,101,109,97,105,110,100,101,114])=false:=by simpa[bX]using h6
     simp only[if_neg h6]
     simp -implicitDefEqProofs only[c82,↓qA,ZZ,seval,CL,XS,eq,b1,b2,b3,b4,b5,b6]
     exact hnum _ hdv
end Go.Lite
/-
  The reference's primitives of one.
-/
namespace Go.Lite
open Go Go.Proofs
theorem a8h {H:Heap}{bs:List Nat}{v:V}{cs:List AV}(h:ValZ H bs v cs):((v.kind==5)=true↔∃ p q,v= .pair p q):=by
 cases v with
 | atom k t=>
   obtain⟨_,_,_,h4,_⟩:=h
   simp[V.kind];omega
 | pair p q=>simp[V.kind]
 | fn e env g=>simp[V.kind]
set_option maxHeartbeats 4000000 in
theorem aB4 {F m : Nat} (ih : bJ F m) (t : Str) (v : V) (s : S) (o : O V) (h : oneF (qP F m) t v s = some o) : Ev fun n => ∀ km H bs cs, StZ F km H bs s 0 → ValZ H bs v cs → GiveQ F km H bs (qB P5 n 83 [.ptr (.new km) 0, .str t, .agg cs] H) o := by
 unfold oneF at h
 have hF : Ev fun n => ∀ p q, v = .pair p q → (t = carT ∨ t = cdrT) → ∀ km H bs cv, StZ F km H bs s 0 → PC bs (if t = carT then p else q) cv → GiveQ F km H bs (qB P5 n 55 [.ptr (.new km) 0, cv] H) o := by
  by_cases hx:∃ p q,v= .pair p q
  · obtain⟨p,q,rfl⟩:=hx
    by_cases ht:t=carT∨t=cdrT
    · rw[if_pos ht]at h
      refine(ih _ s o h).mono fun n hn p' q' e _=> ?_
      simp only[V.pair.injEq]at e
      obtain⟨rfl,rfl⟩:=e
      exact hn
    · exact Ev.of fun n p q _ h'=>absurd h' ht
  · exact Ev.of fun n p q e=>absurd ⟨p,q,e⟩ hx
 refine Ev.succ ((hF.and (stop50.and (truth66.and (plain58.and (Ev.ge 3))))).mono fun n hn km H bs cs st hv=> ?_)
 obtain⟨eF,e50,e66,e58,hn⟩:=hn
 rw[qG (P:=P5) (sf:=c83) rfl (aES _ _) rfl rfl]
 have hp5:=a8h hv
 have hv0:=hv
 obtain⟨tx,c2,c3,c4,c5,c6,c7,c8,c9,rfl,htx,hk1,hk6,⟨f2,f3,f4,f5⟩,⟨f6,f7,f8,f9⟩⟩:=hv.ten
 have k2:KeepQ H ((H.push (.row [.int .i64 v.kind,.str tx,c2,c3,c4,c5,c6,c7,c8,c9] 0 false (some 88))).push (.row [AV.int .i64 0,.str [],.nilp,.nilp,.int .i64 0,.str [],.nils,.nils,.nils,.nils] 0 false (some 88))):=(HKeep.push st.low).pushed st.low
 have st2:=(st.push (ob:= .row [.int .i64 v.kind,.str tx,c2,c3,c4,c5,c6,c7,c8,c9] 0 false (some 88))).push (ob:= .row [AV.int .i64 0,.str [],.nilp,.nilp,.int .i64 0,.str [],.nils,.nils,.nils,.nils] 0 false (some 88))
 have gr2:((H.push (.row [.int .i64 v.kind,.str tx,c2,c3,c4,c5,c6,c7,c8,c9] 0 false (some 88))).push (.row [AV.int .i64 0,.str [],.nilp,.nilp,.int .i64 0,.str [],.nils,.nils,.nils,.nils] 0 false (some 88))).t.get (H.n+1)=some (.row [AV.int .i64 0,.str [],.nilp,.nilp,.int .i64 0,.str [],.nils,.nils,.nils,.nils] 0 false (some 88)):=by rw[qF,if_pos (by rw[h_n])]
 by_cases hcar:t=carT∨t=cdrT
 · rw [if_pos hcar] at h
   cases hb:(v.kind==5)with
   | false=>
     have hbn:(v.kind != 5)=true:=by rw[bne,hb];rfl
     have ho:o= .stop 2 [112,97,105,114] s:=by
      split at h
      · rename_i p q;simp[V.kind]at hb
      · exact(Option.some.inj h).symm
     subst ho
     rcases hcar with rfl|rfl<;>
     · simp -implicitDefEqProofs only[c83,↓qA,ZZ,seval,CL,carT,cdrT,f2,f3,f4,f5,f6,f7,f8,f9,hbn,show([99,100,114]==[99,97,114]:Bool)=false from rfl]
       refine xH (e50 F km _ bs 2 _ s st2.low st2.m (by decide)) k2 st.low (k:=H.n+1) (by omega) gr2 rfl rfl (by decide) ?_
       intro fr' H' cs hb hk hl
       simp -implicitDefEqProofs only[↓qA,ZZ,seval,hb,hk,hl,List.take_of_length_le (Nat.le_of_eq hl)]
   | true=>
     obtain⟨p,q,rfl⟩:=hp5.1 hb
     obtain⟨p2,p3,e,hp2,hp3⟩:=hv
     simp only[List.cons.injEq,AV.str.injEq,true_and,and_true]at e
     obtain⟨rfl,rfl,rfl,rfl,rfl,rfl,rfl,rfl,rfl⟩:=e.2
     have hg:=fun H'=>eF p q rfl hcar km H' bs
     by_cases hc1:t=carT
     · subst hc1
       simp -implicitDefEqProofs only[c83,↓qA,ZZ,seval,CL,carT,V.kind,f2,f3,Int.reduceBNe]
       refine xH (k:=H.n+1) (hg _ c2 st2 (by simpa using hp2)) k2 st.low (by omega) gr2 rfl rfl (by decide) ?_
       intro fr' H' cs hb hk hl
       simp -implicitDefEqProofs only[↓qA,ZZ,seval,hb,hk,hl,List.take_of_length_le (Nat.le_of_eq hl)]
     · obtain rfl:=hcar.resolve_left hc1
       simp -implicitDefEqProofs only[c83,↓qA,ZZ,seval,CL,cdrT,V.kind,f2,f3,Int.reduceBNe,show([99,100,114]==[99,97,114]:Bool)=false from rfl]
       refine xH (k:=H.n+1) (hg _ c3 st2 (by rw[if_neg (by decide)];exact hp3)) k2 st.low (by omega) gr2 rfl rfl (by decide) ?_
       intro fr' H' cs hb hk hl
       simp -implicitDefEqProofs only[↓qA,ZZ,seval,hb,hk,hl,List.take_of_length_le (Nat.le_of_eq hl)]
 · rw [if_neg hcar] at h
   have n1:(t==[99,97,114])=false:=by simpa[carT]using fun e=>hcar (.inl e)
   have n2:(t==[99,100,114])=false:=by simpa[cdrT]using fun e=>hcar (.inr e)
   have fin:∀ (b:Bool),o= .val (zC b) s→GiveQ F km H bs (some (.ret (.agg (kZ b)),((H.push (.row [.int .i64 v.kind,.str tx,c2,c3,c4,c5,c6,c7,c8,c9] 0 false (some 88))).push (.row [AV.int .i64 0,.str [],.nilp,.nilp,.int .i64 0,.str [],.nils,.nils,.nils,.nils] 0 false (some 88))).put (H.n+1) (.row (kZ b) 0 false (some 88)))) o:=by
    rintro b rfl
    exact kW (st2.box gr2 (by decide)) (sI b) (k2.own st.low (by omega) (st2.low.lt gr2))
   unfold kZ at fin
   by_cases h3:t=tJ
   · subst h3
     have ho:=fin _ (by simpa using h.symm)
     simp -implicitDefEqProofs only[c83,↓qA,ZZ,seval,CL,tJ,f2,f3,f4,f5,f6,f7,f8,f9,e66,kZ,E0,show([110,117,108,108,63]==[99,97,114]:Bool)=false from rfl,show([110,117,108,108,63]==[99,100,114]:Bool)=false from rfl]
     exact ho
   have m3:(t==[110,117,108,108,63])=false:=by simpa[tJ]using h3
   rw[if_neg h3]at h
   by_cases h4:t=pairT
   · subst h4
     have ho:=fin _ (by simpa using h.symm)
     simp -implicitDefEqProofs only[c83,↓qA,ZZ,seval,CL,f2,f3,f4,f5,f6,f7,f8,f9,e66,kZ,E0,n1,n2,m3,show(pairT==[112,97,105,114,63]:Bool)=true from rfl]
     exact ho
   have m4:(t==[112,97,105,114,63])=false:=by simpa[pairT]using h4
   rw[if_neg h4]at h
   by_cases h5:t=jT
   · subst h5
     have ho:=fin _ (by simpa using h.symm)
     simp -implicitDefEqProofs only[c83,↓qA,ZZ,seval,CL,f2,f3,f4,f5,f6,f7,f8,f9,e66,kZ,E0,n1,n2,m3,m4,show(jT==[105,110,116,101,103,101,114,63]:Bool)=true from rfl]
     exact ho
   have m5:(t==[105,110,116,101,103,101,114,63])=false:=by simpa[jT]using h5
   rw[if_neg h5]at h
   by_cases h6:t=symbolT
   · subst h6
     have ho:=fin _ (by simpa using h.symm)
     simp -implicitDefEqProofs only[c83,↓qA,ZZ,seval,CL,f2,f3,f4,f5,f6,f7,f8,f9,e66,kZ,E0,n1,n2,m3,m4,m5,show(symbolT==[115,121,109,98,111,108,63]:Bool)=true from rfl]
     exact ho
   have m6:(t==[115,121,109,98,111,108,63])=false:=by simpa[symbolT]using h6
   rw[if_neg h6]at h
   by_cases h7:t=notT
   · subst h7
     have ho:=fin _ (by simpa using h.symm)
     cases hk:(v.kind==2)with
     | false=>
       have e:v.isFalse=false:=by simp[V.isFalse,hk]
       rw[e]at ho
       simp -implicitDefEqProofs only[c83,↓qA,ZZ,seval,CL,f2,f3,f4,f5,f6,f7,f8,f9,e66,kZ,E0,n1,n2,m3,m4,m5,m6,show(notT==[110,111,116]:Bool)=true from rfl,hk]
       exact ho
     | true=>
       have e:v.isFalse=(tx==[35,102]):=by
        have:v.kind=2:=by simpa using hk
        rw[V.isFalse,hk,htx];rfl
       rw[e]at ho
       simp -implicitDefEqProofs only[c83,↓qA,ZZ,seval,CL,f2,f3,f4,f5,f6,f7,f8,f9,e66,kZ,E0,n1,n2,m3,m4,m5,m6,show(notT==[110,111,116]:Bool)=true from rfl,hk]
       exact ho
   have m7:(t==[110,111,116])=false:=by simpa[notT]using h7
   rw[if_neg h7]at h
   have st3:=st2.push (ob:= .row [.int .i64 v.kind,.str tx,c2,c3,c4,c5,c6,c7,c8,c9] 0 false (some 88))
   have k3:=k2.pushed st.low (ob:= .row [.int .i64 v.kind,.str tx,c2,c3,c4,c5,c6,c7,c8,c9] 0 false (some 88))
   have gr3:(((H.push (.row [.int .i64 v.kind,.str tx,c2,c3,c4,c5,c6,c7,c8,c9] 0 false (some 88))).push (.row [AV.int .i64 0,.str [],.nilp,.nilp,.int .i64 0,.str [],.nils,.nils,.nils,.nils] 0 false (some 88))).push (.row [.int .i64 v.kind,.str tx,c2,c3,c4,c5,c6,c7,c8,c9] 0 false (some 88))).t.get (H.n+1)=some (.row [AV.int .i64 0,.str [],.nilp,.nilp,.int .i64 0,.str [],.nils,.nils,.nils,.nils] 0 false (some 88)):=by rw[qF,if_neg (by simp only[h_n];omega)];exact gr2
   by_cases hlt:v.kind<5
   · have hlen:tx.length≤1000:=by
      rw[htx]
      cases v with
      | atom k t'=>obtain⟨_,_,_,_,hn,_⟩:=hv;exact hn.1.1
      | pair p q=>simp[V.text]
      | fn e env g=>simp[V.text]
     simp only[if_pos hlt,Option.some.injEq]at h
     subst h
     have hd:decide (1≤v.kind∧v.kind≤4)=true:=decide_eq_true ⟨hk1,by omega⟩
     have e58':=fun H=>e58 v.kind (.str tx) c2 c3 c4 c5 c6 c7 c8 c9 H
     rw[hd]at e58'
     simp -implicitDefEqProofs only[c83,↓qA,ZZ,seval,CL,f2,f3,f4,f5,f6,f7,f8,f9,e58',n1,n2,m3,m4,m5,m6,m7,show 6+tx.length≤4611686018427387904 by omega]
     rw[←htx]
     refine xH (e50 F km _ bs 2 _ s st3.low st3.m (by decide)) k3 st.low (k:=H.n+1) (by omega) gr3 rfl rfl (by decide) ?_
     intro fr' H' cs hb hk hl
     simp -implicitDefEqProofs only[↓qA,ZZ,seval,hb,hk,hl,List.take_of_length_le (Nat.le_of_eq hl)]
   · simp only[if_neg hlt,Option.some.injEq]at h
     subst h
     have hd:decide (1≤v.kind∧v.kind≤4)=false:=decide_eq_false (by omega)
     have e58':=fun H=>e58 v.kind (.str tx) c2 c3 c4 c5 c6 c7 c8 c9 H
     rw[hd]at e58'
     simp -implicitDefEqProofs only[c83,↓qA,ZZ,seval,CL,f2,f3,f4,f5,f6,f7,f8,f9,e58',n1,n2,m3,m4,m5,m6,m7]
     refine xH (e50 F km _ bs 2 _ s st3.low st3.m (by decide)) k3 st.low (k:=H.n+1) (by omega) gr3 rfl rfl (by decide) ?_
     intro fr' H' cs hb hk hl
     simp -implicitDefEqProofs only[↓qA,ZZ,seval,hb,hk,hl,List.take_of_length_le (Nat.le_of_eq hl)]
end Go.Lite
/-
  Lists that the reference makes.
-/
namespace Go.Lite
open Go Go.Proofs
abbrev vO (H H':Heap):Prop:=HKeep (fun _ _=>False) H H'
theorem HKeep.keepQ {H H':Heap}(k:vO H H'):KeepQ H H':=k.mono fun _ _ _ h=>h.elim
theorem StZ.kept {F km:Nat}{H H':Heap}{bs:List Nat}{s:S}{d:Nat}(h:StZ F km H bs s d) (k:vO H H'):StZ F km H' bs s d:=h.keep (k.low h.low) k.keepQ.stayQ fun j cs t g _=>k.get _ _ g fun h=>h
theorem a0o {e es bs m:Nat}{H:Heap}{ys:List AV}(hes:es≠0) (hfl:ys.all AV.flat=true) (hm:m≠0) (hb:m*bs≤1099511627776∧m≤1099511627776):xC e es bs H (.lst 0 0 true []) (m,ys)=some (.slice (.new H.n) 0 m (.gro es),H.push (.row ys es false (some e))):=by
 unfold xC
 rw[if_neg (by simp[hes,hfl])]
 simp only[]
 rw[if_neg hm,if_pos ⟨.inr trivial,trivial,by simpa using hb.1,by simpa using hb.2⟩,Nat.zero_add]
 rfl
theorem a0l {e es bs:Nat}{H:Heap}(hes:es≠0):xC e es bs H (.lst 0 0 true []) (0,[])=some (.lst 0 0 true [],H):=by
 unfold xC
 rw[if_neg (by simp[hes])];rfl
theorem a5h {H:Heap}(low:HLow H) {m1 m2:Nat}{gcs lcs:List AV}(h1:gcs.length=m1) (f1:gcs.all AV.flat=true) (h2:lcs.length=m2) (f2:lcs.all AV.flat=true) (hb:m1+m2≤2000):∃ v1 H1 v2 H2,xC 84 1 8 H (.lst 0 0 true []) (m1,gcs)=some (v1,H1)∧vO H H1∧xC 84 1 8 H1 v1 (m2,lcs)=some (v2,H2)∧vO H H2∧v2.flat=true∧((m1+m2=0∧gcs++lcs=[]∧v2=E0)∨Acc H.n H2 84 1 (m1+m2) (gcs++lcs) v2):=by
 by_cases hm1:m1=0
 · subst hm1
   obtain rfl:=List.eq_nil_of_length_eq_zero h1
   by_cases hm2:m2=0
   · subst hm2
     obtain rfl:=List.eq_nil_of_length_eq_zero h2
     exact⟨_,_,_,_,a0l (by decide),HKeep.refl,a0l (by decide),HKeep.refl,rfl,.inl ⟨rfl,rfl,rfl⟩⟩
   · refine⟨_,_,_,_,a0l (by decide),HKeep.refl,a0o (by decide) f2 hm2 (by omega),HKeep.push low,rfl,.inr (.inr ⟨by omega,by simp only[List.nil_append];omega,H.n,by rw[Nat.zero_add],Nat.le_refl _,by rw[qF,if_pos rfl];rfl⟩)⟩
 · have acc1:Acc H.n (H.push (.row gcs 1 false (some 84))) 84 1 m1 gcs (.slice (.new H.n) 0 m1 (.gro 1)):= .inr ⟨hm1,by omega,H.n,rfl,Nat.le_refl _,by rw[qF,if_pos rfl]⟩
   have k1:vO H (H.push (.row gcs 1 false (some 84))):=HKeep.push low
   obtain⟨v2,H2,happ2,acc2,kb2,low2⟩:=acc1.more (bs:=8) (m:=m2) (ys:=lcs) k1.n low.push (by decide) (by omega) f2 (by omega)
   exact⟨_,_,v2,H2,a0o (by decide) f1 hm1 (by omega),k1,happ2,acc1.keeps k1 low kb2,acc2.flat,.inr acc2⟩
theorem a6t {F km:Nat}{H0 H V:Heap}{bs:List Nat}{s:S}{d i:Nat}{cs:List AV}{lv cv:AV}(acc:Acc H0.n H 84 1 i cs lv) (kp:KeepQ H0 H) (low0:HLow H0) (low:HLow H) (vw:View V H) (st:StZ F km V bs s d) (pv:Priv V lv) (fcv:cv.flat=true) (hi:i≤1000):
 ∃ H7 V7,xC 84 1 8 (H.push (.row [cv] 0 false none)) lv (1,[cv])=some (.slice (.new (H.n+1)) 0 (i+1) (.gro 1),H7)∧Acc H0.n H7 84 1 (i+1) (cs++[cv]) (.slice (.new (H.n+1)) 0 (i+1) (.gro 1))∧KeepQ H0 H7∧HLow H7∧View V7 H7∧StZ F km V7 bs s d∧Priv V7 (.slice (.new (H.n+1)) 0 (i+1) (.gro 1))∧KeepQ V V7:=by
 have acc5':=acc.push low (ob:= .row [cv] 0 false none)
 obtain⟨H7,happ,acc7,kp7,low7,hn7⟩:=acc5'.one_more (e:=84) (bs:=8) (ys:=[cv]) (by simp only[h_n];have:=kp.n;omega) low.push (by decide) rfl (by simp[fcv]) (by omega)
 have kH7:KeepQ H0 H7:=acc5'.keeps (kp.pushed low0) low0 kp7
 have st5:=st.push (ob:= .row [cv] 0 false none)
 have lowV:=st.low
 have pv5:∀ j o,blk lv j o→(V.push (.row [cv] 0 false none)).t.get j=none:=fun j o hb=>by
  have hj:j<H.n:=by
   obtain⟨o',n',c',e⟩:=hb
   exact(acc.below low e).2
  rw[qF,if_neg (by rw[vw.n];omega)]
  exact pv j o hb
 obtain⟨V7,vw7,hnone,hg,hn⟩:=a3a (N:=0) (i:=i) (cells:=cs) (c:=cv) vw.push pv5 st5.low kp7 hn7
 simp only[h_n]at happ acc7 hnone hn
 have kV:KeepQ V V7:=by
  have k5:KeepQ V (V.push (.row [cv] 0 false none)):=HKeep.push st.low
  refine⟨by omega,fun j o g hx=>by rw[hg];exact k5.get _ _ g hx,fun _ j o g=> ?_⟩
  rw[hg]at g
  have:=st5.low _ _ g
  rw[h_n]at this;omega
 refine⟨H7,V7,happ,acc7,kH7,low7,vw7,st5.same hg (by rw[h_n];omega),?_,kV⟩
 rintro j o ⟨o',n',c',e⟩
 simp only[AV.slice.injEq,Blk.new.injEq]at e
 rw[←e.1];exact hnone
theorem a6b {H:Heap}{bs:List Nat}{env:Env}{ev:AV}(he:EnvZ H bs env ev) (hE:env.length≤1000000000) (H2:Heap) (st:StayQ H H2) (low:HLow H2):∃ cs,Lite.taken 2 H2 ev=some (env.length,cs)∧BindR bs env.reverse cs∧xC 92 2 24 H2 (.lst 0 0 true []) (env.length,cs)=some (.slice (.new H2.n) 0 env.length (.gro 2),H2.push (.row cs 2 false (some 92)))∧Acc H2.n (H2.push (.row cs 2 false (some 92))) 92 2 env.length cs (.slice (.new H2.n) 0 env.length (.gro 2)):=by
 obtain⟨cs,h1,h2⟩:=(he.stay st).taken
 have h0:env.length≠0:=by obtain⟨_,_,_,_,_,_,_,h,_⟩:=he;omega
 have hl:=h2.len
 rw[List.length_reverse]at hl
 exact⟨cs,h1,h2,a0o (by decide) h2.flat h0 (by omega),.inr ⟨h0,hl,H2.n,rfl,Nat.le_refl _,by rw[qF,if_pos rfl]⟩⟩
theorem EnvZ.acc {N:Nat}{H:Heap}{bs:List Nat}{env:Env}{cells:List AV}{v:AV}(h:Acc N H 92 2 env.length cells v) (h0:0<env.length) (hb:BindR bs env.reverse cells):EnvZ H bs env v:=by
 rcases h with⟨h1,rfl,rfl⟩|⟨h1,h2,k,rfl,h3,h4⟩
 · omega
 · exact⟨k,cells,2,.gro 2,some 92,rfl,rfl,h0,h4,.inr rfl,hb⟩
end Go.Lite
/-
  The reference's application.
-/
namespace Go.Lite
open Go Go.Proofs
theorem a9e {P:R→Prop}{n k4:Nat}{bs:List Nat}{ns:List Str}{gl:List Nat}{env:Env}{v2 lv:AV}{KK:Ex→Fr→Heap→R}{fr:Fr}{base H:Heap}{cells:List AV}{k:Int}{t:Str}{a:List X}{c8 c9:AV}(hns:ns.length≤1000) (hgl:gl.length=ns.length) (hn:ns.length<n) (hE:env.length≤1000000000) (h0:0<env.length)
 (low:HLow base) (same:vO base H) (acc:Acc base.n H 92 2 env.length cells lv) (hb:BindR bs env.reverse cells) (lis:LisZ base bs gl v2) (g4:base.t.get k4=some (.row [.int .i64 6,.str [],.nilp,.nilp,.int .i64 k,.str t,qE ns,vXs a,c8,c9] 0 false (some 88)))
 (r4:fr 4= .ptr (.new k4) 0) (r9:fr 9=v2) (r10:fr 10=lv) (r11:fr 11= .int .i64 (0:Nat))
 (hend:∀ fr' H' ev',vO base H'→EnvZ H' bs ((ns.zip gl).reverse++env) ev'→fr' 10=ev'→fr' 0=fr 0→fr' 2=fr 2→fr' 4=fr 4→fr' 6=fr 6→P (KK (.exit 2) fr' H')):P (zQ (qB P5 n) n a4j n fr H KK):=by
 refine zL ns.length (fun i fr' H'=>∃ lv cells,Acc base.n H' 92 2 (env.length+i) cells lv∧BindR bs (env.reverse++(ns.zip gl).take i) cells∧vO base H'∧fr' 9=v2∧fr' 10=lv∧fr' 11= .int .i64 i∧fr' 0=fr 0∧fr' 2=fr 2∧fr' 4=fr 4∧fr' 6=fr 6) ?_ ?_ n 0 fr H (Nat.zero_le _) hn ⟨lv,cells,acc,by simpa using hb,same,r9,r10,r11,rfl,rfl,rfl,rfl⟩
 · rintro i fr' H' K' hi ⟨lv,cells,acc,hb,same,q9,q10,q11,q0,q2,q4,q6⟩ hKe hKr hK
   have hlt:(i:Int)<(ns.length:Int):=by omega
   have hw:IntKind.i64.wrap ((i:Int)+1)=((i+1:Nat):Int):=qY (n:=1000) (by omega) (by omega)
   obtain⟨nm,hnm⟩:∃ nm,ns[i]? = some nm:=⟨ns[i],List.getElem?_eq_getElem hi⟩
   obtain⟨j,hj⟩:∃ j,gl[i]? = some j:=⟨gl[i]'(by omega),List.getElem?_eq_getElem (by omega)⟩
   have lis':=lis.stay same.keepQ.stayQ
   obtain⟨b,q,cells2,c,a1,a2,a3,a4⟩:=lis'.at hj
   have hlen:=lis'.len
   rw[hgl]at hlen
   have g4':=same.get _ _ g4 fun h=>h
   have fc:c.flat=true:=by obtain⟨_,_,rfl⟩:=a4;rfl
   have kcv:vD c=none:=by obtain⟨_,_,rfl⟩:=a4;rfl
   have low':=same.low low
   have acc1:=acc.push low' (ob:= .row [.str nm,c] 0 false none)
   obtain⟨H7,happ,acc7,kb7,low7,hn7⟩:=acc1.one_more (bs:=24) (ys:=[.str nm,c]) (by have:=same.n;rw[h_n];omega) low'.push (by decide) rfl (by simp only[List.all_cons,List.all_nil,fc,Bool.and_true];rfl) (by omega)
   simp only[h_n]at happ acc7
   have same7:vO base H7:=acc1.keeps (same.pushed low) low kb7
   have hzip:(ns.zip gl)[i]? = some (nm,j):=by rw[List.getElem?_zip_eq_some];exact⟨hnm,hj⟩
   have htake:(ns.zip gl).take (i+1)=(ns.zip gl).take i++[(nm,j)]:=by rw[List.take_add_one,hzip];rfl
   simp -implicitDefEqProofs only[a4j,↓qA,ZZ,seval,CL,XS,q9,q10,q11,q4,r4,hlen,hlt,g4',yD hnm,a1,a2,a3,hw,fc,kcv,zP,happ]
   refine hK _ _ ⟨.slice (.new (H'.n+1)) 0 (env.length+i+1) (.gro 2),cells++[.str nm,c],acc7,?_,same7,?_,?_,?_,?_,?_,?_,?_⟩
   · rw[htake,←List.append_assoc]
     exact hb.append ⟨c,[],rfl,a4,rfl⟩
   all_goals simp -implicitDefEqProofs only[↓qA,ZZ,Nat.reduceBEq,reduceIte,Nat.reduceAdd,Nat.reduceLeDiff,Nat.reduceEqDiff,Nat.reduceBneDiff,q9,q10,q11,q0,q2,q4,q6,r4]
 · rintro fr' H' K' ⟨lv,cells,acc,hb,same,q9,q10,q11,q0,q2,q4,q6⟩ hKe hKr
   have hlt:¬(ns.length:Int)<(ns.length:Int):=by omega
   have hlen:=(lis.stay same.keepQ.stayQ).len
   rw[hgl]at hlen
   have htk:(ns.zip gl).take ns.length=ns.zip gl:=List.take_of_length_le (by rw[List.length_zip];omega)
   rw[htk]at hb
   simp -implicitDefEqProofs only[a4j,↓qA,ZZ,seval,CL,XS,q9,q10,q11,hlen,hlt,hKe]
   have hle:((ns.zip gl).reverse++env).length=env.length+ns.length:=by simp;omega
   refine hend _ _ lv same (EnvZ.acc (N:=base.n) (cells:=cells) (by rw[hle];exact acc) (by omega) (by rw[List.reverse_append,List.reverse_reverse];exact hb)) ?_ ?_ ?_ ?_ ?_<;>simp -implicitDefEqProofs only[↓qA,ZZ,seval,q9,q10,q11,q0,q2,q4,q6]
def a5u (F:Nat) (v:V) (l:List Nat) (s:S) (o:O V) (m n:Nat):Prop:=∀ km H0 H bs cs lv k4 k6 fr mm KK,StZ F km H bs s 0→ValZ H bs v cs→LisZ H bs l lv→KeepQ H0 H→HLow H0→H0.n≤k4→H0.n≤k6→¬k4=k6→
 fr 0= .ptr (.new km) 0→fr 2=lv→fr 4= .ptr (.new k4) 0→fr 6= .ptr (.new k6) 0→H.t.get k4=some (.row cs 0 false (some 88))→H.t.get k6=some (.row [AV.int .i64 0,.str [],.nilp,.nilp,.int .i64 0,.str [],.nils,.nils,.nils,.nils] 0 false (some 88))→m≤mm→
 (∀ fr' H' c0 c1 c2 c3 c4 c5 c6 c7 c8 c9,fr' 4= .ptr (.new k4) 0→fr' 6= .ptr (.new k6) 0→H'.t.get k4=some (.row [c0,c1,c2,c3,c4,c5,c6,c7,c8,c9] 0 false (some 88))→H'.t.get k6=some (.row [AV.int .i64 0,.str [],.nilp,.nilp,.int .i64 0,.str [],.nils,.nils,.nils,.nils] 0 false (some 88))→((c0.flat=true∧c1.flat=true∧c2.flat=true∧c3.flat=true∧c4.flat=true)∧c5.flat=true∧c6.flat=true∧c7.flat=true∧c8.flat=true∧c9.flat=true)→
   KK (.exit 0) fr' H'=some (.ret (.agg [c0,c1,c2,c3,c4,c5,c6,c7,c8,c9]),H'.put k6 (.row [c0,c1,c2,c3,c4,c5,c6,c7,c8,c9] 0 false (some 88))))→
 (∀ fr' H' cs,fr' 6= .ptr (.new k6) 0→H'.t.get k6=some (.row cs 0 false (some 88))→cs.length=10→KK .ret fr' H'=some (.ret (.agg cs),H'))→
 GiveQ F km H0 bs (zQ (qB P5 n) n pV mm fr H KK) o
set_option maxHeartbeats 8000000 in
theorem a2U {F : Nat} : ∀ m, (∀ k, k < m → EvalQ F k) → ∀ v l s o, applyA F m v l s = some o → Ev (a5u F v l s o m)
 | 0,_,v,l,s,o,h=>by simp[applyA]at h
 | m + 1, ih, v, l, s, o, h => by
   rw[gI]at h
   unfold sK at h
   by_cases hl:l=[]
   · rw[if_pos hl]at h
     obtain rfl:=Option.some.inj h
     subst hl
     refine Ev.of fun n km H0 H bs cs lv k4 k6 fr mm KK st hv hlis kp low0 h4 h6 h46 r0 r2 r4 r6 g4 g6 hm hK0 hK1=> ?_
     obtain⟨mm,rfl⟩:∃ k,mm=k+1:=⟨mm-1,by omega⟩
     obtain⟨t,c2,c3,c4,c5,c6,c7,c8,c9,rfl,_,_,_,⟨f2,f3,f4,f5⟩,⟨f6,f7,f8,f9⟩⟩:=hv.ten
     have hlen:=hlis.len
     have hgt:¬((0:Nat):Int)>0:=by omega
     simp only[List.length_nil]at hlen
     rw[qX]
     have hfin:=fun fr' a b=>hK0 fr' H (.int .i64 v.kind) (.str t) c2 c3 c4 c5 c6 c7 c8 c9 a b g4 g6 ⟨⟨rfl,rfl,f2,f3,f4⟩,f5,f6,f7,f8,f9⟩
     simp -implicitDefEqProofs only[pV,↓qA,ZZ,seval,CL,r0,r2,r4,r6,hlen,hgt]
     rw[hfin _ (by simp -implicitDefEqProofs only[↓qA,ZZ,seval,r4]) (by simp -implicitDefEqProofs only[↓qA,ZZ,seval,r6])]
     have k1:=kp.own low0 h6 (st.low.lt g6) (ob:= .row [.int .i64 v.kind,.str t,c2,c3,c4,c5,c6,c7,c8,c9] 0 false (some 88))
     exact kW (st.box g6 (by decide)) (hv.stay (StayQ.put g6 (by decide) (by decide))) k1
   rw[if_neg hl]at h
   have hlpos:0<l.length:=List.length_pos_iff.2 hl
   rcases Classical.em (∃ e env g,v= .fn e env g)with hfn|hfn
   case inr=>
    have ho:o= .stop 2 [97,112,112,108,121] s:=by
     cases v with
     | fn e env g=>exact absurd ⟨_,_,_,rfl⟩ hfn
     | atom k t=>exact(Option.some.inj h).symm
     | pair a b=>exact(Option.some.inj h).symm
    subst ho
    refine stop50.mono fun n e50 km H0 H bs cs lv k4 k6 fr mm KK st hv hlis kp low0 h4 h6 h46 r0 r2 r4 r6 g4 g6 hm hK0 hK1=> ?_
    obtain⟨mm,rfl⟩:∃ k,mm=k+1:=⟨mm-1,by omega⟩
    have hb:(v.kind != 6)=true:=by
     cases v with
     | fn e env g=>exact absurd ⟨_,_,_,rfl⟩ hfn
     | atom k t=>
       obtain⟨_,_,_,hk,_⟩:=hv
       simp only[V.kind,bne_iff_ne,ne_eq];omega
     | pair a b=>rfl
    obtain⟨t,c2,c3,c4,c5,c6,c7,c8,c9,rfl,_,_,_,⟨f2,f3,f4,f5⟩,⟨f6,f7,f8,f9⟩⟩:=hv.ten
    have hlen:=hlis.len
    have hgt:((l.length:Nat):Int)>0:=by omega
    have gm:=st.m
    simp only[mRow]at gm
    rw[qX]
    simp -implicitDefEqProofs only[pV,↓qA,ZZ,seval,CL,r0,r2,r4,r6,hlen,hgt,gm,g4,hb]
    refine xH (e50 F km _ bs 2 _ s st.low st.m (by decide)) kp low0 (k:=k6) h6 g6 rfl r6 (by decide) ?_
    intro fr' H' cs hb hk hl
    simp -implicitDefEqProofs only[↓qA,ZZ,seval,hb,hk,hl,List.take_of_length_le (Nat.le_of_eq hl),hK1 fr' H' cs hb hk hl]
   obtain⟨e,env,g,rfl⟩:=hfn
   obtain⟨k,t,ns,a⟩:=e
   simp only[]at h
   by_cases hpart:l.length<ns.length-g.length
   · rw[if_pos hpart]at h
     obtain rfl:=Option.some.inj h
     refine Ev.of fun n km H0 H bs cs lv k4 k6 fr mm KK st hv hlis kp low0 h4 h6 h46 r0 r2 r4 r6 g4 g6 hm hK0 hK1=> ?_
     obtain⟨mm,rfl⟩:∃ k,mm=k+1:=⟨mm-1,by omega⟩
     obtain⟨c8,c9,rfl,ht,he,hg,hgl⟩:=hv
     have hns:ns.length≤1000:=by have:=ht.1;rw[X.tame]at this;exact this.2.1
     have hlen:=hlis.len
     have hglen:=hg.len
     have gm:=st.m
     simp only[mRow]at gm
     have hgt:((l.length:Nat):Int)>0:=by omega
     have hw:IntKind.i64.wrap ((ns.length:Int)-(g.length:Int))=((ns.length-g.length:Nat):Int):=by
      rw[wrap64 (by omega) (by omega)];omega
     have hmin:(if (l.length:Int)<((ns.length-g.length:Nat):Int)then(l.length:Int)else((ns.length-g.length:Nat):Int))=(l.length:Int):=by rw[if_pos (by omega)]
     have hlt:(l.length:Int)<((ns.length-g.length:Nat):Int):=by omega
     obtain⟨u,lcs,hsl,htku,hlp⟩:=hlis.pre hl (Nat.le_refl _)
     obtain⟨w,hsw,fw,hlw⟩:=hlis.rest hl (k:=l.length) (Nat.le_refl _)
     rw[List.take_length]at hlp
     have h64:¬k6=k4:=fun e=>h46 e.symm
     have f8:=he.flat
     have k0:vO H (H.push (.row [] 0 true none)):=HKeep.push st.low
     obtain⟨gcs,htk,hgp⟩:=(hg.stay k0.keepQ.stayQ).taken
     obtain⟨v1,H1,v2,H2,happ1,s1,happ2,s2,fv2,hv2⟩:=a5h st.low.push (m1:=g.length) (m2:=l.length) hgp.len hgp.flat hlp.len hlp.flat (by omega)
     have acc2:=hv2.resolve_left fun e=>by omega
     have same2:=k0.trans s2
     have htku1:=htku H1 (k0.trans s1).keepQ.stayQ
     have g42:=same2.get _ _ g4 fun h=>h
     have g62:=same2.get _ _ g6 fun h=>h
     have sA:=st.kept same2
     have low2:=sA.low
     have z4:¬k4=H.n:=by have:=st.low.lt g4;omega
     have z6:¬k6=H.n:=by have:=st.low.lt g6;omega
     rw[qX]
     simp -implicitDefEqProofs only[pV,↓qA,ZZ,seval,CL,XS,r0,r2,r4,r6,hlen,hglen,hgt,gm,g4,hw,hmin,hlt,hsl,hsw,htk,happ1,htku1,happ2,g42,g62,fv2,f8,h46,h64,z4,z6,Int.reduceBNe,V.kind]
     rw[hK1 _ _ _ (by simp -implicitDefEqProofs only[↓qA,ZZ,seval,r6]) (by rw[qD,if_pos rfl]) rfl]
     have kp2:=kp.trans same2.keepQ
     have k42:=kp2.own low0 h4 (low2.lt g42) (ob:= .row [.int .i64 6,.str [],.nilp,.nilp,.int .i64 k,.str t,qE ns,vXs a,c8,v2] 0 false (some 88))
     have k62:=k42.own low0 h6 (by show k6<H2.n;exact low2.lt g62) (ob:= .row [.int .i64 6,.str [],.nilp,.nilp,.int .i64 k,.str t,qE ns,vXs a,c8,v2] 0 false (some 88))
     have g6':=pK (ob:= .row [.int .i64 6,.str [],.nilp,.nilp,.int .i64 k,.str t,qE ns,vXs a,c8,v2] 0 false (some 88)) h64 g62
     have sB:=(sA.box g42 (by decide) (ob:= .row [.int .i64 6,.str [],.nilp,.nilp,.int .i64 k,.str t,qE ns,vXs a,c8,v2] 0 false (some 88))).box g6' (by decide) (ob:= .row [.int .i64 6,.str [],.nilp,.nilp,.int .i64 k,.str t,qE ns,vXs a,c8,v2] 0 false (some 88))
     have stay:StayQ H2 ((H2.put k4 (.row [.int .i64 6,.str [],.nilp,.nilp,.int .i64 k,.str t,qE ns,vXs a,c8,v2] 0 false (some 88))).put k6 (.row [.int .i64 6,.str [],.nilp,.nilp,.int .i64 k,.str t,qE ns,vXs a,c8,v2] 0 false (some 88))):=
      (StayQ.put g42 (by decide) (by decide)).trans (StayQ.put g6' (by decide) (by decide))
     have lis2:LisZ H2 bs (g++l) v2:=LisZ.acc (N:=(H.push (.row [] 0 true none)).n) (cells:=gcs++lcs) (by rw[List.length_append];exact acc2) (hgp.append hlp)
     exact kW sB ⟨c8,v2,rfl,ht,(he.stay same2.keepQ.stayQ).stay stay,lis2.stay stay,by rw[List.length_append];omega⟩ k62
   rw[if_neg hpart]at h
   cases a with
   | nil=>simp at h
   | cons b a'=>
     simp only[]at h
     obtain⟨p,hp,h⟩:=Option.bind_eq_some_iff.1 h
     have hm1:1≤m:=by
      cases m with
      | zero=>simp[evalA]at hp
      | succ m=>omega
     have hE:Ev fun n=>Room b ((ns.zip (g++l.take (ns.length-g.length))).reverse++env)→∀ km H bs ev,StZ F km H bs s 1→EnvZ H bs ((ns.zip (g++l.take (ns.length-g.length))).reverse++env) ev→GiveQ F km H bs (qB P5 n 29 [.ptr (.new km) 0,b.v,ev] H) p:=by
      by_cases htb:Room b ((ns.zip (g++l.take (ns.length-g.length))).reverse++env)
      · exact(ih m (Nat.lt_succ_self m) b _ s p htb hp).mono fun n hn _=>hn
      · exact Ev.of fun n h'=>absurd h' htb
     have hN:Ev fun n=>∀ v' s',p= .val v' s'→∀ o',applyA F m v' (l.drop (ns.length-g.length)) s'=some o'→a5u F v' (l.drop (ns.length-g.length)) s' o' m n:=
      Ev.val fun v' s' _=>Ev.opt fun o' ho'=>a2U m (fun k hk=>ih k (by omega)) v' _ s' o' ho'
     refine(hE.and (hN.and (Ev.ge 1002))).mono fun n hn km H0 H bs cs lv k4 k6 fr mm KK st hv hlis kp low0 h4 h6 h46 r0 r2 r4 r6 g4 g6 hm hK0 hK1=> ?_
     obtain⟨eE,eN,hn⟩:=hn
     obtain⟨mm,rfl⟩:∃ k,mm=k+1:=⟨mm-1,by omega⟩
     obtain⟨c8,c9,rfl,ht,he,hg,hgl⟩:=hv
     have hns:ns.length≤1000:=by have:=ht.1;rw[X.tame]at this;exact this.2.1
     have hlen:=hlis.len
     have hglen:=hg.len
     have gm:=st.m
     simp only[mRow]at gm
     have h64:¬k6=k4:=fun e=>h46 e.symm
     have hgt:((l.length:Nat):Int)>0:=by omega
     have hw:IntKind.i64.wrap ((ns.length:Int)-(g.length:Int))=((ns.length-g.length:Nat):Int):=by
      rw[wrap64 (by omega) (by omega)];omega
     have hmin:(if (l.length:Int)<((ns.length-g.length:Nat):Int)then(l.length:Int)else((ns.length-g.length:Nat):Int))=((ns.length-g.length:Nat):Int):=by rw[if_neg (by omega)]
     have hlt:¬(((ns.length-g.length:Nat):Int)<((ns.length-g.length:Nat):Int)):=by omega
     have hll:(l.take (ns.length-g.length)).length=ns.length-g.length:=by rw[List.length_take];omega
     obtain⟨u,lcs,hsl,htku,hlp⟩:=hlis.pre hl (k:=ns.length-g.length) (by omega)
     obtain⟨w,hsw,fw,hlw⟩:=hlis.rest hl (k:=ns.length-g.length) (by omega)
     have f8:=he.flat
     have k0:vO H (H.push (.row [] 0 true none)):=HKeep.push st.low
     obtain⟨gcs,htk,hgp⟩:=(hg.stay k0.keepQ.stayQ).taken
     obtain⟨v1,H1,v2,H2,happ1,s1,happ2,s2,fv2,hv2⟩:=a5h st.low.push (m1:=g.length) (m2:=ns.length-g.length) hgp.len hgp.flat (by rw[hlp.len,hll]) hlp.flat (by omega)
     have same2:=k0.trans s2
     have htku1:=htku H1 (k0.trans s1).keepQ.stayQ
     have g42:=same2.get _ _ g4 fun h=>h
     have g62:=same2.get _ _ g6 fun h=>h
     have sA:=st.kept same2
     have low2:=sA.low
     have hglen2:(g++l.take (ns.length-g.length)).length=ns.length:=by rw[List.length_append,hll];omega
     have lis2:LisZ H2 bs (g++l.take (ns.length-g.length)) v2:=by
      rcases hv2 with⟨e1,e2,e3⟩|acc2
      · exact .inl ⟨List.eq_nil_of_length_eq_zero (by omega),.inr (.inr e3)⟩
      · refine LisZ.acc (N:=(H.push (.row [] 0 true none)).n) (cells:=gcs++lcs) ?_ (hgp.append hlp)
        rw[List.length_append,hll];exact acc2
     have k3:vO H2 (H2.push (.row [] 0 true none)):=HKeep.push low2
     obtain⟨ecs,etk,ebd,eapp,eacc⟩:=a6b he ht.le (H2.push (.row [] 0 true none)) (same2.trans k3).keepQ.stayQ low2.push
     have same4:=(same2.trans k3).trans (HKeep.push (X:=fun _ _=>False) low2.push (ob:= .row ecs 2 false (some 92)))
     have g43:=k3.get _ _ g42 fun h=>h
     have z4:¬k4=H.n:=by have:=st.low.lt g4;omega
     have z6:¬k6=H.n:=by have:=st.low.lt g6;omega
     have z42:¬k4=H2.n:=by have:=low2.lt g42;omega
     have z62:¬k6=H2.n:=by have:=low2.lt g62;omega
     rw[qX]
     simp only[h_n]at eapp eacc
     simp -implicitDefEqProofs only[pV,↓qA,ZZ,seval,CL,XS,r0,r2,r4,r6,hlen,hglen,hgt,gm,g4,hw,hmin,hlt,hsl,hsw,htk,happ1,htku1,happ2,g42,g43,g62,fv2,f8,h46,h64,z4,z6,z42,z62,etk,eapp,Int.reduceBNe,V.kind]
     have h0e:0<env.length:=by obtain⟨_,_,_,_,_,_,_,h,_⟩:=he;exact h
     refine a9e (P:=fun r=>GiveQ F km H0 bs r o) (base:=H2.push (.row [] 0 true none)) hns hglen2 (by omega) ht.le h0e low2.push (HKeep.push low2.push) eacc ebd (lis2.stay k3.keepQ.stayQ) g43 (by simp -implicitDefEqProofs only[↓qA,ZZ,Nat.reduceBEq,reduceIte,Nat.reduceAdd,Nat.reduceLeDiff,Nat.reduceEqDiff,Nat.reduceBneDiff,r4]) (by simp -implicitDefEqProofs only[↓qA,ZZ,Nat.reduceBEq,reduceIte,Nat.reduceAdd,Nat.reduceLeDiff,Nat.reduceEqDiff,Nat.reduceBneDiff]) (by simp -implicitDefEqProofs only[↓qA,ZZ,Nat.reduceBEq,reduceIte,Nat.reduceAdd,Nat.reduceLeDiff,Nat.reduceEqDiff,Nat.reduceBneDiff]) (by simp -implicitDefEqProofs only[↓qA,ZZ,Nat.reduceBEq,reduceIte,Nat.reduceAdd,Nat.reduceLeDiff,Nat.reduceEqDiff,Nat.reduceBneDiff];rfl) ?_
     intro fr' H' ev' same' he' q10 q0 q2 q4 q6
     simp -implicitDefEqProofs only[↓qA,ZZ,seval,r0,r2,r4,r6]at q0 q2 q4 q6
     have sameA:=(same2.trans k3).trans same'
     have g44:=sameA.get _ _ g4 fun h=>h
     have g64:=sameA.get _ _ g6 fun h=>h
     have st':=st.kept sameA
     have hroom:Room b ((ns.zip (g++l.take (ns.length-g.length))).reverse++env):=ht.sub (by rw[List.length_append,List.length_reverse,List.length_zip];omega) (by simp)
     have hcall:=eE hroom km H' bs ev' (st'.weak (by omega)) he'
     obtain⟨kb,tb,nb,lb⟩:=b
     have ib:xV 4 (vXs (.mk kb tb nb lb::a')) 0=some (.ptr (.val (X.mk kb tb nb lb).cells) 0):=xR rfl
     rw[X.v_mk]at hcall
     have kpA:=kp.trans sameA.keepQ
     obtain⟨mm,rfl⟩:∃ k,mm=k+1:=⟨mm-1,by omega⟩
     cases p with
     | stop kk tt s'=>
       obtain rfl:=(Option.some.inj h).symm
       obtain⟨c0,c1,c2,c3,c4,c5,c6,c7,c8',c9',H3,z1,⟨⟨f0,f1,f2,f3,f4⟩,f5,f6,f7,f8',f9⟩,z3,z4⟩:=hcall
       have g45:=z4.get _ _ g44 (qR (by decide) (by decide))
       have g65:=z4.get _ _ g64 (qR (by decide) (by decide))
       have lw:=hlw.len
       have gm3:=(z3.box g45 (by decide) (ob:= .row [c0,c1,c2,c3,c4,c5,c6,c7,c8',c9'] 0 false (some 88))).m
       have hne:(kk==0)=false:=by simpa using z3.ne
       simp only[mRow]at gm3
       have g4z:(H3.put k4 (.row [c0,c1,c2,c3,c4,c5,c6,c7,c8',c9'] 0 false (some 88))).t.get k4=some (.row [c0,c1,c2,c3,c4,c5,c6,c7,c8',c9'] 0 false (some 88)):=by rw[qD,if_pos rfl]
       have g6z:=pK (ob:= .row [c0,c1,c2,c3,c4,c5,c6,c7,c8',c9'] 0 false (some 88)) h64 g65
       simp -implicitDefEqProofs only[↓qA,ZZ,seval,CL,XS,Int.reduceLE,Int.reduceToNat,q10,q0,q2,q4,q6,g44,ib,X.cells_mk,z1,g45,f0,f1,f2,f3,f4,f5,f6,f7,f8',f9]
       rw[qX]
       have fin:=fun fr' a b=>hK0 fr' _ c0 c1 c2 c3 c4 c5 c6 c7 c8' c9' a b g4z g6z ⟨⟨f0.1,f1.1,f2,f3,f4⟩,f5,f6,f7,f8',f9⟩
       have nkm:¬km=k4:=by
        rintro rfl
        rw[z3.m]at g45
        simp[mRow]at g45
       rw[qD,if_neg nkm]at gm3
       by_cases hgt2:(((l.drop (ns.length-g.length)).length:Nat):Int)>0
       · simp -implicitDefEqProofs only[pV,↓qA,ZZ,seval,CL,q0,q2,q4,q6,lw,hgt2,gm3,nkm,hne]
         rw[fin _ (by simp -implicitDefEqProofs only[↓qA,ZZ,seval,q4]) (by simp -implicitDefEqProofs only[↓qA,ZZ,seval,q6])]
         exact⟨c0,c1,c2,c3,c4,c5,c6,c7,c8',c9',_,rfl,⟨⟨f0,f1,f2,f3,f4⟩,f5,f6,f7,f8',f9⟩,(z3.box g45 (by decide)).box g6z (by decide),(((kpA.trans z4).own low0 h4 (z3.low.lt g45)).own low0 h6 (by show k6<H3.n;exact z3.low.lt g65))⟩
       · simp -implicitDefEqProofs only[pV,↓qA,ZZ,seval,CL,q0,q2,q4,q6,lw,hgt2,gm3,nkm,hne]
         rw[fin _ (by simp -implicitDefEqProofs only[↓qA,ZZ,seval,q4]) (by simp -implicitDefEqProofs only[↓qA,ZZ,seval,q6])]
         exact⟨c0,c1,c2,c3,c4,c5,c6,c7,c8',c9',_,rfl,⟨⟨f0,f1,f2,f3,f4⟩,f5,f6,f7,f8',f9⟩,(z3.box g45 (by decide)).box g6z (by decide),(((kpA.trans z4).own low0 h4 (z3.low.lt g45)).own low0 h6 (by show k6<H3.n;exact z3.low.lt g65))⟩
     | val v' s'=>
       have h:applyA F m v' (l.drop (ns.length-g.length)) s'=some o:=h
       obtain⟨cs',H3,x,z1,z2,z3,z4⟩:=hcall
       obtain⟨tx,d2,d3,d4,d5,d6,d7,d8,d9,rfl,_,_,_,⟨e2,e3,e4,e5⟩,⟨e6,e7,e8,e9⟩⟩:=z2.ten
       have g45:=z4.get _ _ g44 (qR (by decide) (by decide))
       have g65:=z4.get _ _ g64 (qR (by decide) (by decide))
       simp -implicitDefEqProofs only[↓qA,ZZ,seval,CL,XS,Int.reduceLE,Int.reduceToNat,q10,q0,q2,q4,q6,g44,ib,X.cells_mk,z1,g45,e2,e3,e4,e5,e6,e7,e8,e9]
       have sp:=StayQ.put g45 (by decide) (by decide) (ob:= .row [.int .i64 v'.kind,.str tx,d2,d3,d4,d5,d6,d7,d8,d9] 0 false (some 88))
       refine GiveQ.more (x:=x) (eN v' s' rfl o h km H0 _ (bs++x) _ w k4 k6 _ (mm+1) KK (z3.box g45 (by decide)) (z2.stay sp) (((hlw.stay sameA.keepQ.stayQ).keep (x:=x) z4.stayQ).stay sp) ((kpA.trans z4).own low0 h4 (z3.low.lt g45)) low0 h4 h6 h46 ?_ ?_ ?_ ?_ (by rw[qD,if_pos rfl]) (pK h64 g65) (by omega) hK0 hK1)
       all_goals simp -implicitDefEqProofs only[↓qA,ZZ,Nat.reduceBEq,reduceIte,Nat.reduceAdd,Nat.reduceLeDiff,Nat.reduceEqDiff,Nat.reduceBneDiff,q10,q0,q2,q4,q6]
set_option maxHeartbeats 2000000 in
theorem a7M {F m:Nat}(ih:∀ k,k<m→EvalQ F k):a2r F m:=by
 intro v l s o h
 refine Ev.succ (((a2U m ih v l s o h).and (Ev.ge m)).mono fun n hn km H bs cs lv st hv hl=> ?_)
 obtain⟨eL,hn⟩:=hn
 obtain⟨t,c2,c3,c4,c5,c6,c7,c8,c9,rfl,_,_,_,⟨f2,f3,f4,f5⟩,⟨f6,f7,f8,f9⟩⟩:=hv.ten
 rw[qG (P:=P5) (sf:=c58) rfl (aBK _ _) rfl rfl]
 have fl:=hl.flat
 have k2:KeepQ H ((H.push (.row [.int .i64 v.kind,.str t,c2,c3,c4,c5,c6,c7,c8,c9] 0 false (some 88))).push (.row [AV.int .i64 0,.str [],.nilp,.nilp,.int .i64 0,.str [],.nils,.nils,.nils,.nils] 0 false (some 88))):=(HKeep.push st.low).pushed st.low
 have st2:=(st.push (ob:= .row [.int .i64 v.kind,.str t,c2,c3,c4,c5,c6,c7,c8,c9] 0 false (some 88))).push (ob:= .row [AV.int .i64 0,.str [],.nilp,.nilp,.int .i64 0,.str [],.nils,.nils,.nils,.nils] 0 false (some 88))
 simp -implicitDefEqProofs only[c58,↓qA,ZZ,seval,CL,f2,f3,f4,f5,f6,f7,f8,f9]
 refine eL km H _ bs _ lv H.n (H.n+1) _ n _ st2 (hv.stay k2.stayQ) (hl.stay k2.stayQ) k2 st.low (Nat.le_refl _) (by omega) (by omega) ?_ ?_ ?_ ?_ ?_ ?_ hn ?_ ?_
 · rfl
 · rfl
 · rfl
 · rfl
 · rw[qF,if_neg (by rw[h_n];omega),qF,if_pos rfl]
 · rw[qF,if_pos (by rw[h_n])]
 · intro fr' H' c0 c1 c2 c3 c4 c5 c6 c7 c8 c9 r4 r6 g4 g6 ⟨⟨f0,f1,f2,f3,f4⟩,f5,f6,f7,f8,f9⟩
   simp -implicitDefEqProofs only[↓qA,ZZ,seval,CL,r4,r6,g4,g6,f0,f1,f2,f3,f4,f5,f6,f7,f8,f9]
 · intro fr' H' cs r6 g6 hl
   simp -implicitDefEqProofs only[↓qA,ZZ,seval,CL,r6,g6,hl,List.take_of_length_le (Nat.le_of_eq hl)]
end Go.Lite
