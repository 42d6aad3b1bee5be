/-
  Several texts in one: QLet, QLetB, QPrim, QPrimB, QEval, QArgs, QEvalB.
-/
import Derived.Test.YtmfdlglhngmacaaGreatDoorYQ
import Derived.Test.YtmfdlglhngmacaaGreatDoorYL
set_option linter.unusedSimpArgs false
set_option linter.unusedVariables false
set_option linter.defProp false
set_option maxRecDepth 100000
/-
  The reference's let.
-/
namespace Go.Lite
open Go Go.Proofs
def a1t:List AV:=[.int .i64 0,.int .i64 0,.str [],.nils,.nils,.nils,.int .i64 0,.str [],.nilp,.nilp,.int .i64 0,.str [],.nils,.nils,.nils,.nils]
def a7y (e:X) (ev:AV):List AV:=[.int .i64 0]++e.cells++[ev]++[AV.int .i64 0,.str [],.nilp,.nilp,.int .i64 0,.str [],.nils,.nils,.nils,.nils]
theorem tV:∀ (ns:List Str) (n:Str) (i:Nat) (env:Env),x9 (ns++[n]) i env=(n,i+ns.length)::x9 ns i env
 | [],n,i,env=>rfl
 | m::ns,n,i,env=>by
   rw[List.cons_append,x9,tV ns n (i+1),x9,List.length_cons,show i+1+ns.length=i+(ns.length+1)by omega]
theorem a0I:∀ (ns:List Str) (N:Nat) (env:Env),(x9 ns N env).reverse=env.reverse++ns.zip (List.range' N ns.length)
 | [],N,env=>by simp[x9]
 | n::ns,N,env=>by
   rw[x9,a0I ns (N+1),List.reverse_cons,List.length_cons,List.range'_succ,List.zip_cons_cons,List.append_assoc,List.singleton_append]
theorem StZ.other {F km:Nat}{H H':Heap}{bs:List Nat}{s:S}{d:Nat}(h:StZ F km H bs s d) (low:HLow H') (k:StayQ H H') (hm:H'.t.get km=H.t.get km) (hc:∀ j∈bs,H'.t.get j=H.t.get j):StZ F km H' bs s d where
 low:=low
 m:=by rw[hm];exact h.m
 nodup:=h.nodup
 len:=h.len
 cells i b c hb hs:=by
  obtain⟨cs,h1,h2⟩:=h.cells i b c hb hs
  exact⟨cs,by rw[hc b (List.mem_of_getElem? hb)];exact h1,by simpa using h2.keep (x:=[]) k⟩
 steps:=h.steps
 uses:=h.uses
 small:=h.small
theorem StZ.add {F km:Nat}{H:Heap}{bs ks:List Nat}{s:S}{d:Nat}{q:List C}(h:StZ F km H bs s d) (hn:ks.Nodup) (hd:∀ k∈ks,k∉bs) (hl:ks.length=q.length)
 (hc:∀ (i k:Nat) (c:C),ks[i]? = some k→q[i]? = some c→∃ cs,H.t.get k=some (.row cs 0 false (some 126))∧CellZ H (bs++ks) c cs):StZ F km H (bs++ks) (s.more q) d where
 low:=h.low
 m:=h.m
 nodup:=by
  rw[List.nodup_append]
  refine⟨h.nodup,hn,?_⟩
  rintro a ha b hb rfl
  exact hd a hb ha
 len:=by simp[S.more,h.len,hl]
 cells i b c hb hs:=by
  simp only[S.more]at hs
  by_cases hi:i<s.cells.length
  · rw[List.getElem?_append_left (by rw[h.len];exact hi)]at hb
    rw[List.getElem?_append_left hi]at hs
    obtain⟨cs,h1,h2⟩:=h.cells i b c hb hs
    exact⟨cs,h1,h2.keep StayQ.refl⟩
  · rw[List.getElem?_append_right (by rw[h.len];omega),h.len]at hb
    rw[List.getElem?_append_right (by omega)]at hs
    exact hc _ _ _ hb hs
 steps:=h.steps
 uses:=h.uses
 small:=h.small
set_option maxHeartbeats 2000000 in
theorem a8U {P:R→Prop}{n k4:Nat}{bs:List Nat}{N:Nat}{k:Int}{t:Str}{ns:List Str}{a:List X}{env:Env}{lv:AV}{KK:Ex→Fr→Heap→R}{fr:Fr}{base H:Heap}{cells:List AV}(hns:ns.length≤1000) (hn:ns.length<n) (hE:env.length≤1000000000) (h0:0<env.length) (hN:bs.length=N) (hbs:∀ b∈bs,b<base.n)
 (low:HLow base) (same:vO base H) (acc:Acc base.n H 92 2 env.length cells lv) (hb:BindR bs env.reverse cells) (g4:base.t.get k4=some (.row [.int .i64 k,.str t,qE ns,vXs a] 0 false (some 28)))
 (r4:fr 4= .ptr (.new k4) 0) (r7:fr 7=lv) (r8:fr 8= .int .i64 (0:Nat))
 (hend:∀ fr' H' ks ev',vO base H'→ks.length=ns.length→ks.Nodup→(∀ k∈ks,base.n≤k∧H'.t.get k=some (.row a1t 0 false (some 126)))→EnvZ H' (bs++ks) (x9 ns N env) ev'→fr' 7=ev'→fr' 0=fr 0→fr' 2=fr 2→fr' 4=fr 4→fr' 6=fr 6→P (KK (.exit 0) fr' H')):P (zQ (qB P5 n) n a4c n fr H KK):=by
 refine zL ns.length (fun i fr' H'=>∃ lv cells ks,Acc base.n H' 92 2 (env.length+i) cells lv∧BindR (bs++ks) (x9 (ns.take i) N env).reverse cells∧ks.length=i∧ks.Nodup∧(∀ k∈ks,base.n≤k∧H'.t.get k=some (.row a1t 0 false (some 126)))∧vO base H'∧fr' 7=lv∧fr' 8= .int .i64 i∧fr' 0=fr 0∧fr' 2=fr 2∧fr' 4=fr 4∧fr' 6=fr 6) ?_ ?_ n 0 fr H (Nat.zero_le _) hn
  ⟨lv,cells,[],acc,by simpa[x9]using hb,rfl,List.nodup_nil,(by intro k hk;cases hk),same,r7,r8,rfl,rfl,rfl,rfl⟩
 · rintro i fr' H' K' hi ⟨lv,cells,ks,acc,hb,hks,hnd,hrow,same,q7,q8,q0,q2,q4,q6⟩ hKe hKr hK
   have hlt:(i:Int)<(ns.length:Int):=by omega
   have hw:IntKind.i64.wrap ((i:Int)+1)=((i+1:Nat):Int):=qY (n:=1000) (by omega) (by omega)
   obtain⟨nm,hnm⟩:∃ nm,ns[i]? = some nm:=⟨ns[i],List.getElem?_eq_getElem hi⟩
   have g4':=same.get _ _ g4 fun h=>h
   have low':=same.low low
   have acc0:=acc.push low' (ob:= .row a1t 0 false (some 126))
   have acc1:=acc0.push low'.push (ob:= .row [.str nm,.ptr (.new H'.n) 0] 0 false none)
   obtain⟨H7,happ,acc7,kb7,low7,hn7⟩:=acc1.one_more (bs:=24) (ys:=[.str nm,.ptr (.new H'.n) 0]) (by have:=same.n;simp only[h_n];omega) low'.push.push (by decide) rfl rfl (by omega)
   simp only[h_n]at happ acc7
   have same7:vO base H7:=acc1.keeps ((same.pushed low).pushed low) low kb7
   have htake:ns.take (i+1)=ns.take i++[nm]:=by rw[List.take_add_one,hnm];rfl
   have hlen:(ns.take i).length=i:=by rw[List.length_take];omega
   unfold a1t at happ
   have kp0:vD (.ptr (.new H'.n) 0)=none:=rfl
   simp -implicitDefEqProofs only[a4c,↓qA,ZZ,seval,CL,XS,q7,q8,q4,r4,hlt,g4',yD hnm,hw,zP,happ,kp0]
   refine hK _ _ ⟨.slice (.new (H'.n+1+1)) 0 (env.length+i+1) (.gro 2),cells++[.str nm,.ptr (.new H'.n) 0],ks++[H'.n],acc7,?_,by simp[hks],?_,?_,same7,?_,?_,?_,?_,?_,?_⟩
   · rw[htake,tV,List.reverse_cons,hlen,←List.append_assoc]
     refine hb.more.append ⟨_,[],rfl,?_,rfl⟩
     have:(bs++ks).length=N+i:=by rw[List.length_append,hN,hks]
     rw[←this];exact PC.new
   · rw[List.nodup_append]
     refine⟨hnd,by simp,?_⟩
     rintro a ha b hb rfl
     simp only[List.mem_singleton]at hb
     have:=low' _ _ (hrow a ha).2
     omega
   · intro k hk
     have hsn:=same.n
     rcases List.mem_append.1 hk with hk|hk
     · refine⟨(hrow k hk).1,acc1.row (by decide) kb7 ?_⟩
       have:=low' _ _ (hrow k hk).2
       rw[qF,if_neg (by rw[h_n];omega),qF,if_neg (by omega)]
       exact(hrow k hk).2
     · simp only[List.mem_singleton]at hk
       subst hk
       refine⟨hsn,acc1.row (by decide) kb7 ?_⟩
       rw[qF,if_neg (by rw[h_n];omega),qF,if_pos rfl]
   all_goals simp -implicitDefEqProofs only[↓qA,ZZ,Nat.reduceBEq,reduceIte,Nat.reduceAdd,Nat.reduceLeDiff,Nat.reduceEqDiff,Nat.reduceBneDiff,q7,q8,q0,q2,q4,q6,r4]
 · rintro fr' H' K' ⟨lv,cells,ks,acc,hb,hks,hnd,hrow,same,q7,q8,q0,q2,q4,q6⟩ hKe hKr
   have hlt:¬(ns.length:Int)<(ns.length:Int):=by omega
   have g4':=same.get _ _ g4 fun h=>h
   rw[List.take_length]at hb
   simp -implicitDefEqProofs only[a4c,↓qA,ZZ,seval,CL,XS,q7,q8,q4,r4,g4',hlt,hKe]
   have hle:(x9 ns N env).length=env.length+ns.length:=kE ns N env
   refine hend _ _ ks lv same hks hnd hrow (EnvZ.acc (N:=base.n) (cells:=cells) (by rw[hle];exact acc) (by omega) hb) ?_ ?_ ?_ ?_ ?_<;>simp -implicitDefEqProofs only[↓qA,ZZ,seval,q7,q8,q0,q2,q4,q6,r4]
set_option maxHeartbeats 2000000 in
theorem a8O {P:R→Prop}{F km n k4:Nat}{bs ks:List Nat}{s:S}{k:Int}{t:Str}{ns:List Str}{a:List X}{env env':Env}{ev ev':AV}{KK:Ex→Fr→Heap→R}{fr:Fr}{H:Heap}(hns:ns.length≤1000) (hl:ns.length<a.length) (hn:ns.length<n) (hE:env.length≤1000000000)
 (st:StZ F km H bs s 0) (hks:ks.length=ns.length) (hnd:ks.Nodup) (hd:∀ k∈ks,k∉bs∧k≠km) (hrow:∀ k∈ks,H.t.get k=some (.row a1t 0 false (some 126))) (he':EnvZ H (bs++ks) (x9 ns s.cells.length env) ev') (g4:H.t.get k4=some (.row [.int .i64 k,.str t,qE ns,vXs a] 0 false (some 28)))
 (r2:fr 2=ev) (hev:lenM ev=some (.int .i64 env.length)) (r4:fr 4= .ptr (.new k4) 0) (r7:fr 7=ev') (r9:fr 9= .int .i64 (0:Nat))
 (hend:∀ fr' H',StZ F km H' bs s 0→KeepQ H H'→StayQ H H'→(∀ (i k:Nat) (x:X),ks[i]? = some k→a[i]? = some x→H'.t.get k=some (.row (a7y x ev') 0 false (some 126)))→fr' 7=ev'→fr' 0=fr 0→fr' 2=fr 2→fr' 4=fr 4→fr' 6=fr 6→P (KK (.exit 2) fr' H')):P (zQ (qB P5 n) n a3Q n fr H KK):=by
 have fe':=he'.flat
 refine zL ns.length (fun i fr' H'=>StZ F km H' bs s 0∧KeepQ H H'∧StayQ H H'∧(∀ (j k:Nat) (x:X),j<i→ks[j]? = some k→a[j]? = some x→H'.t.get k=some (.row (a7y x ev') 0 false (some 126)))∧(∀ (j k:Nat),i≤j→ks[j]? = some k→H'.t.get k=some (.row a1t 0 false (some 126)))∧fr' 7=ev'∧fr' 9= .int .i64 i∧fr' 0=fr 0∧fr' 2=fr 2∧fr' 4=fr 4∧fr' 6=fr 6) ?_ ?_ n 0 fr H (Nat.zero_le _) hn
  ⟨st,HKeep.refl,StayQ.refl,fun j k x h=>by omega,fun j k _ h=>hrow k (List.mem_of_getElem? h),r7,r9,rfl,rfl,rfl,rfl⟩
 · rintro i fr' H' K' hi ⟨st',kp,sy,hf,hz,q7,q9,q0,q2,q4,q6⟩ hKe hKr hK
   have hlt:(i:Int)<(ns.length:Int):=by omega
   have hw:IntKind.i64.wrap ((i:Int)+1)=((i+1:Nat):Int):=qY (n:=1000) (by omega) (by omega)
   have hw2:IntKind.i64.wrap ((env.length:Int)+(i:Int))=((env.length+i:Nat):Int):=by rw[wrap64 (by omega) (by omega)];omega
   obtain⟨kk,hkk⟩:∃ kk,ks[i]? = some kk:=⟨ks[i]'(by omega),List.getElem?_eq_getElem (by omega)⟩
   obtain⟨e,he⟩:∃ e,a[i]? = some e:=⟨a[i]'(by omega),List.getElem?_eq_getElem (by omega)⟩
   obtain⟨nm,hnm⟩:∃ nm,ns[i]? = some nm:=⟨ns[i],List.getElem?_eq_getElem hi⟩
   have hmem:=List.mem_of_getElem? hkk
   have g4':=kp.get _ _ g4 (qR (by decide) (by decide))
   have gk:=hz i kk (Nat.le_refl _) hkk
   obtain⟨jj,cells,es,c,ty,rfl,hes,h0,gj,hty,hb⟩:=he'.stay sy
   have hle:(x9 ns s.cells.length env).length=env.length+ns.length:=kE _ _ _
   have hat:(x9 ns s.cells.length env).reverse[env.length+i]? = some (nm,s.cells.length+i):=by
    rw[a0I,List.getElem?_append_right (by rw[List.length_reverse];omega),List.length_reverse,Nat.add_sub_cancel_left,List.getElem?_zip_eq_some]
    exact⟨hnm,by rw[List.getElem?_range' hi,Nat.one_mul]⟩
   obtain⟨a1,cc,a2,b,hb2,rfl⟩:=hb.get hat
   have hbk:b=kk:=by
    have:(bs++ks)[s.cells.length+i]? = some kk:=by rw[List.getElem?_append_right (by rw[st.len];omega),st.len,Nat.add_sub_cancel_left];exact hkk
    exact Option.some.inj (hb2.symm.trans this)
   subst hbk
   have hlt3:env.length+i<(x9 ns s.cells.length env).length:=by omega
   have hlk:=st'.low _ _ gk
   have hnj:¬jj=b:=by
    rintro rfl
    rw[gj]at gk
    simp only[Option.some.injEq,Obj.row.injEq]at gk
    rcases hty with h|h<;>rw[h]at gk<;>simp at gk
   obtain⟨ek,et,en,ea⟩:=e
   have ie:xV 4 (vXs a) i=some (.ptr (.val (X.mk ek et en ea).cells) 0):=xR he
   rw[kE]at r7 q7 fe' hlt3
   unfold a1t at gk
   simp -implicitDefEqProofs only[a3Q,↓qA,ZZ,seval,CL,XS,q7,q9,q2,q4,r2,r4,hev,hlt,hw,hw2,g4',ie,X.cells_mk,jL,hle,hlt3,gj,a2,gk,fe',Nat.zero_add,hnj]
   have hbkm:b≠km:=(hd b hmem).2
   have hbbs:b∉bs:=(hd b hmem).1
   have hsame:∀ (r1 r2:Obj) (j:Nat),j≠b→((H'.put b r1).put b r2).t.get j=H'.t.get j:=fun r1 r2 j hj=>by rw[qD,if_neg hj,qD,if_neg hj]
   have low1:∀ (r1:Obj),HLow (H'.put b r1):=fun r1=>st'.low.put hlk
   have low2:∀ (r1 r2:Obj),HLow ((H'.put b r1).put b r2):=fun r1 r2=>(low1 r1).put hlk
   have kp2:∀ (c1:List AV) (r2:Obj),KeepQ H' ((H'.put b (.row c1 0 false (some 126))).put b r2):=fun c1 r2=>(KeepQ.cell gk (.inl rfl) st'.low).trans (KeepQ.cell (cs:=c1) (t:=126) (by rw[qD,if_pos rfl]) (.inl rfl) (low1 _))
   have sy2:∀ (c1:List AV) (r2:Obj),StayQ H' ((H'.put b (.row c1 0 false (some 126))).put b r2):=fun c1 r2=>(StayQ.put gk (by decide) (by decide)).trans (StayQ.put (cs:=c1) (es:=0) (fz:=false) (t:=126) (by rw[qD,if_pos rfl]) (by decide) (by decide))
   have hne:∀ (j k:Nat),j≠i→ks[j]? = some k→k≠b:=fun j k hj hk e=>by
    subst e
    exact hj ((List.getElem?_inj (List.getElem?_eq_some_iff.1 hk).1 hnd).1 (hk.trans hkk.symm))
   refine hK _ _ ⟨st'.other (low2 _ _) (sy2 _ _) (hsame _ _ _ hbkm.symm) (fun j hj=>hsame _ _ _ fun e=>hbbs (e ▸ hj)),kp.trans (kp2 _ _),sy.trans (sy2 _ _),?_,?_,?_,?_,?_,?_,?_,?_⟩
   · intro j k' x hj hk' hx
     by_cases hji:j=i
     · subst hji
       rw[hkk]at hk'
       obtain rfl:=Option.some.inj hk'
       rw[he]at hx
       obtain rfl:=Option.some.inj hx
       rw[qD,if_pos rfl,kE];simp only[a7y,X.cells_mk];rfl
     · rw[hsame _ _ _ (hne j k' hji hk')]
       exact hf j k' x (by omega) hk' hx
   · intro j k' hj hk'
     rw[hsame _ _ _ (hne j k' (by omega) hk')]
     exact hz j k' (by omega) hk'
   all_goals simp -implicitDefEqProofs only[↓qA,ZZ,Nat.reduceBEq,reduceIte,Nat.reduceAdd,Nat.reduceLeDiff,Nat.reduceEqDiff,Nat.reduceBneDiff,q7,q9,q0,q2,q4,q6,r2,kE]
 · rintro fr' H' K' ⟨st',kp,sy,hf,hz,q7,q9,q0,q2,q4,q6⟩ hKe hKr
   have hlt:¬(ns.length:Int)<(ns.length:Int):=by omega
   have g4':=kp.get _ _ g4 (qR (by decide) (by decide))
   simp -implicitDefEqProofs only[a3Q,↓qA,ZZ,seval,CL,XS,q7,q9,q4,r4,g4',hlt,hKe]
   refine hend _ _ st' kp sy (fun i k x h1 h2=>hf i k x (by have:=(List.getElem?_eq_some_iff.1 h1).1;omega) h1 h2) ?_ ?_ ?_ ?_ ?_<;>simp -implicitDefEqProofs only[↓qA,ZZ,seval,q7,q9,q0,q2,q4,q6]
end Go.Lite
/-
  The reference's let, whole.
-/
namespace Go.Lite
open Go Go.Proofs
set_option maxHeartbeats 4000000 in
theorem aFk {F m:Nat}(ih:EvalQ F m) (k:Int) (t:Str) (ns:List Str) (l:List X) (b:X) (env:Env) (s:S) (o:O V) (hr:Room (.mk k t ns l) env) (hb:l[ns.length]? = some b) (h:evalA F m b (x9 ns s.cells.length env) (s.more ((l.take ns.length).map fun e=>C.wait e (x9 ns s.cells.length env)))=some o):
 Ev fun n=>∀ km H bs ev,StZ F km H bs s 0→EnvZ H bs env ev→GiveQ F km H bs (qB P5 n 59 [.ptr (.new km) 0,(X.mk k t ns l).v,ev] H) o:=by
 have hns:ns.length≤1000:=by have:=hr.1;rw[X.tame]at this;exact this.2.1
 have hl:ns.length<l.length:=(List.getElem?_eq_some_iff.1 hb).1
 have hE:=hr.le
 have hrb:Room b (x9 ns s.cells.length env):=hr.sub (by rw[kE];omega) (List.mem_of_getElem? hb)
 refine Ev.succ (((ih b _ _ o hrb h).and (Ev.ge 1002)).mono fun n hn km H bs ev st he=> ?_)
 obtain⟨eB,hn⟩:=hn
 rw[qG (P:=P5) (sf:=c59) rfl (aEN _ _) rfl rfl,X.v_mk]
 have low:=st.low
 have low3:HLow (((H.push (.row [.int .i64 k,.str t,qE ns,vXs l] 0 false (some 28))).push (.row [AV.int .i64 0,.str [],.nilp,.nilp,.int .i64 0,.str [],.nils,.nils,.nils,.nils] 0 false (some 88))).push (.row [] 0 true none)):=low.push.push.push
 have s3:vO H (((H.push (.row [.int .i64 k,.str t,qE ns,vXs l] 0 false (some 28))).push (.row [AV.int .i64 0,.str [],.nilp,.nilp,.int .i64 0,.str [],.nils,.nils,.nils,.nils] 0 false (some 88))).push (.row [] 0 true none)):=((HKeep.push low).pushed low).pushed low
 obtain⟨ecs,etk,ebd,eapp,eacc⟩:=a6b he hE (((H.push (.row [.int .i64 k,.str t,qE ns,vXs l] 0 false (some 28))).push (.row [AV.int .i64 0,.str [],.nilp,.nilp,.int .i64 0,.str [],.nils,.nils,.nils,.nils] 0 false (some 88))).push (.row [] 0 true none)) s3.keepQ.stayQ low3
 have h0e:0<env.length:=by obtain⟨_,_,_,_,_,_,_,h,_⟩:=he;exact h
 have g4:(((H.push (.row [.int .i64 k,.str t,qE ns,vXs l] 0 false (some 28))).push (.row [AV.int .i64 0,.str [],.nilp,.nilp,.int .i64 0,.str [],.nils,.nils,.nils,.nils] 0 false (some 88))).push (.row [] 0 true none)).t.get H.n=some (.row [.int .i64 k,.str t,qE ns,vXs l] 0 false (some 28)):=by
  rw[qF,if_neg (by simp only[h_n];omega),qF,if_neg (by rw[h_n];omega),qF,if_pos rfl]
 have g6:(((H.push (.row [.int .i64 k,.str t,qE ns,vXs l] 0 false (some 28))).push (.row [AV.int .i64 0,.str [],.nilp,.nilp,.int .i64 0,.str [],.nils,.nils,.nils,.nils] 0 false (some 88))).push (.row [] 0 true none)).t.get (H.n+1)=some (.row [AV.int .i64 0,.str [],.nilp,.nilp,.int .i64 0,.str [],.nils,.nils,.nils,.nils] 0 false (some 88)):=by
  rw[qF,if_neg (by simp only[h_n];omega),qF,if_pos (by rw[h_n])]
 have hbs:∀ j∈bs,j<H.n:=fun j hj=>by
  obtain⟨cs,h1⟩:=st.block hj
  exact low.lt h1
 have hev:=he.len
 simp only[h_n]at etk eapp eacc
 simp -implicitDefEqProofs only[c59,↓qA,ZZ,seval,CL,XS,etk,eapp]
 refine a8U (P:=fun r=>GiveQ F km H bs r o) (base:=((H.push (.row [.int .i64 k,.str t,qE ns,vXs l] 0 false (some 28))).push (.row [AV.int .i64 0,.str [],.nilp,.nilp,.int .i64 0,.str [],.nils,.nils,.nils,.nils] 0 false (some 88))).push (.row [] 0 true none)) (bs:=bs) (N:=s.cells.length) hns (by omega) hE h0e st.len (fun j hj=>by simp only[h_n];have:=hbs j hj;omega) low3 (HKeep.push low3) (by simpa only[h_n]using eacc) ebd g4 rfl (by simp -implicitDefEqProofs only[↓qA,ZZ,Nat.reduceBEq,reduceIte,Nat.reduceAdd,Nat.reduceLeDiff,Nat.reduceEqDiff,Nat.reduceBneDiff]) (by simp -implicitDefEqProofs only[↓qA,ZZ,Nat.reduceBEq,reduceIte,Nat.reduceAdd,Nat.reduceLeDiff,Nat.reduceEqDiff,Nat.reduceBneDiff];rfl) ?_
 intro fr1 H1 ks ev' same1 hks hnd hrow he1 q7 q0 q2 q4 q6
 simp -implicitDefEqProofs only[↓qA,ZZ,seval]at q0 q2 q4 q6
 have sH1:=s3.trans same1
 have st1:=st.kept sH1
 have hd:∀ j∈ks,j∉bs∧j≠km:=fun j hj=>by
  have h1:=(hrow j hj).1
  simp only[h_n]at h1
  refine⟨fun hb=> ?_,?_⟩
  · have:=hbs j hb;omega
  · have:=low.lt st.m;omega
 simp -implicitDefEqProofs only[↓qA,ZZ,seval,CL,q7,q0,q2,q4,q6]
 refine a8O (P:=fun r=>GiveQ F km H bs r o) (F:=F) (km:=km) (bs:=bs) (ks:=ks) (s:=s) (env:=env) (env':=env) (ev:=ev) (ev':=ev') hns hl (by omega) hE st1 hks hnd hd (fun j hj=>(hrow j hj).2) he1 (same1.get _ _ g4 fun h=>h) (by simp -implicitDefEqProofs only[↓qA,ZZ,Nat.reduceBEq,reduceIte,Nat.reduceAdd,Nat.reduceLeDiff,Nat.reduceEqDiff,Nat.reduceBneDiff,q2]) hev (by simp -implicitDefEqProofs only[↓qA,ZZ,Nat.reduceBEq,reduceIte,Nat.reduceAdd,Nat.reduceLeDiff,Nat.reduceEqDiff,Nat.reduceBneDiff,q4]) (by simp -implicitDefEqProofs only[↓qA,ZZ,Nat.reduceBEq,reduceIte,Nat.reduceAdd,Nat.reduceLeDiff,Nat.reduceEqDiff,Nat.reduceBneDiff,q7]) (by simp -implicitDefEqProofs only[↓qA,ZZ,Nat.reduceBEq,reduceIte,Nat.reduceAdd,Nat.reduceLeDiff,Nat.reduceEqDiff,Nat.reduceBneDiff];rfl) ?_
 intro fr2 H2 st2 kp2 sy2 hfill p7 p0 p2 p4 p6
 simp -implicitDefEqProofs only[↓qA,ZZ,seval,q0,q2,q4,q6]at p0 p2 p4 p6
 have he2:=he1.stay sy2
 have st3:=st2.add (q:=(l.take ns.length).map fun e=>C.wait e (x9 ns s.cells.length env)) hnd (fun j hj=>(hd j hj).1) (by rw[List.length_map,List.length_take];omega) (fun i kk c hk hc=>by
  rw[List.getElem?_map]at hc
  obtain⟨x,hx,rfl⟩:=Option.map_eq_some_iff.1 hc
  have hil:i<ns.length:=by have:=(List.getElem?_eq_some_iff.1 hk).1;omega
  rw[List.getElem?_take_of_lt hil]at hx
  refine⟨_,hfill i kk x hk hx,?_⟩
  obtain⟨xk,xt,xn,xa⟩:=x
  refine⟨ev',?_,hr.sub (by rw[kE];omega) (List.mem_of_getElem? hx),he2⟩
  simp only[a7y,X.cells_mk];rfl)
 have hg:=(eB km H2 (bs++ks) ev' (st3.weak (by omega)) he2).more
 have kk:=sH1.keepQ.trans kp2
 have g42:=kp2.get _ _ (same1.get _ _ g4 fun h=>h) (qR (by decide) (by decide))
 have g62:=kp2.get _ _ (same1.get _ _ g6 fun h=>h) (qR (by decide) (by decide))
 obtain⟨kb,tb,nb,lb⟩:=b
 have ib:xV 4 (vXs l) ns.length=some (.ptr (.val (X.mk kb tb nb lb).cells) 0):=xR hb
 rw[X.v_mk]at hg
 simp -implicitDefEqProofs only[↓qA,ZZ,seval,CL,XS,p0,p2,p4,p6,p7,g42,ib,X.cells_mk]
 refine xH (k:=H.n+1) hg kk low (by omega) g62 rfl p6 (by decide) ?_
 intro fr' H' cs hb hk hl
 simp -implicitDefEqProofs only[↓qA,ZZ,seval,hb,hk,hl,List.take_of_length_le (Nat.le_of_eq hl)]
end Go.Lite
/-
  The reference's primitives: one part is reckoned, and kept in a list.
-/
namespace Go.Lite
open Go Go.Proofs
theorem aCm {H:Heap}{bs:List Nat}{v:V}{cs:List AV}(hv:ValZ H bs v cs):∃ (ob:Obj) (x:Nat→AV) (cs':List AV),(∀ k,lay k 10 1 cs (mJ cs)=(ob,x k))∧(∀ G:Heap,Lite.taken 10 (G.push ob) (x G.n)=some (1,cs'))∧ValZ H bs v cs'∧cs'.length=10∧cs'.all AV.flat=true∧∃ rc fz,ob= .row rc 0 fz none:=by
 cases v with
 | atom k t=>
   obtain⟨e,rfl,h1,h2,h3,h4⟩:=hv
   refine⟨.row [.int .i64 k,.str t,.nilp,.nilp,.int .i64 0,.str [],E0,E0,E0,E0] 0 true none,fun _=> .lst 10 1 true [.int .i64 k,.str t,.nilp,.nilp,.int .i64 0,.str [],E0,E0,E0,E0],[.int .i64 k,.str t,.nilp,.nilp,.int .i64 0,.str [],E0,E0,E0,E0],?_,fun G=>rfl,⟨E0,rfl,h1,h2,h3,.inr rfl⟩,rfl,rfl,_,_,rfl⟩
   intro kk
   rcases h4 with rfl|rfl<;>rfl
 | pair p q=>
   obtain⟨c2,c3,rfl,⟨b,hb,rfl⟩,hq⟩:=hv
   have hq':=hq
   obtain⟨b',hb',rfl⟩:=hq
   refine⟨_,_,_,fun kk=>rfl,fun G=> ?_,⟨_,_,rfl,⟨b,hb,rfl⟩,hq'⟩,rfl,rfl,_,_,rfl⟩
   simp only[zP,tK,wY,qF,if_true,wX];rfl
 | fn e env g=>
   obtain⟨k,t,ns,a⟩:=e
   have hv':=hv
   obtain⟨c8,c9,rfl,h0,h2,h3,h4⟩:=hv
   have f9:=h3.flat
   have hk8:vD c8=none:=by obtain⟨_,_,_,_,_,rfl,_⟩:=h2;rfl
   have hlay:mJ [.int .i64 6,.str [],.nilp,.nilp,.int .i64 k,.str t,qE ns,vXs a,c8,c9]=none:=by
    simp only[mJ,a5d,a5c,a2R,Option.bind_some,hk8,Option.bind_none]
    unfold qE vXs
    simp only[gW,Option.bind_some,Option.map_none]
   refine⟨_,_,[.int .i64 6,.str [],.nilp,.nilp,.int .i64 k,.str t,qE ns,vXs a,c8,c9],fun kk=>by rw[hlay];rfl,fun G=> ?_,hv',rfl,?_,_,_,rfl⟩
   · simp only[zP,tK,wY,qF,if_true,wX];rfl
   · have f8:=h2.flat
     simp only[List.all_cons,List.all_nil,f8,f9,mP,a1B,Bool.and_true];rfl
theorem Acc.stayQ {N n:Nat}{H H':Heap}{cells:List AV}{v:AV}(acc:Acc N H 88 10 n cells v) (kb:HKeep (blk v) H H'):StayQ H H':=fun j cs es fz t g ht=>by
 refine kb.get _ _ g ?_
 rintro⟨o,m,c,rfl⟩
 rcases acc with⟨_,_,h⟩|⟨_,_,k,h,_,h4⟩
 · cases h
 · simp only[AV.slice.injEq,Blk.new.injEq]at h
   rw[h.1,h4]at g
   simp only[Option.some.injEq,Obj.row.injEq]at g
   obtain⟨_,_,_,rfl⟩:=g
   rcases ht with h|h|h<;>simp at h
def badP (t:Str) (m:Nat) (v:V):Prop:=t≠seqT∧t≠eqP∧m=2∧v.kind≠1
set_option maxHeartbeats 8000000 in
theorem a4G {F km n k4 k6 i : Nat} {H0 H : Heap} {bs0 bs : List Nat} {s : S} {t : Str} {ns : List Str} {l : List X} {env : Env} {ev lv : AV} {x : X} {cells : List AV} {fr : Fr} {KK : Ex → Fr → Heap → R} {p o : O V} (hx : l[i]? = some x) (hl2 : l.length ≤ 2)
 (low0:HLow H0) (kp:KeepQ H0 H) (hk4:H0.n≤k4) (hk6:H0.n≤k6) (h46:¬k4=k6) (st:StZ F km H bs s 0) (he:EnvZ H bs env ev) (acc:Acc H0.n H 88 10 i cells lv)
 (g4:H.t.get k4=some (.row [.int .i64 10,.str t,qE ns,vXs l] 0 false (some 28))) (g6:H.t.get k6=some (.row [AV.int .i64 0,.str [],.nilp,.nilp,.int .i64 0,.str [],.nils,.nils,.nils,.nils] 0 false (some 88)))
 (r0:fr 0= .ptr (.new km) 0) (r2:fr 2=ev) (r4:fr 4= .ptr (.new k4) 0) (r6:fr 6= .ptr (.new k6) 0) (r7:fr 7=lv) (r8:fr 8= .int .i64 i)
 (hcall:GiveQ F km H bs (qB P5 n 29 [.ptr (.new km) 0,x.v,ev] H) p)
 (e50:∀ F km H bs (k:Int) (t:Str) (s:S),HLow H→H.t.get km=some (mRow F s.steps s.uses 0 [])→k≠0→GiveQ F km H bs (qB P5 n 54 [.ptr (.new km) 0,.int .i64 k,.str t] H) (.stop k t s))
 (hs:∀ a b s',p= .stop a b s'→o= .stop a b s') (hnum:∀ v s1,p= .val v s1→badP t l.length v→o= .stop 2 [110,117,109,98,101,114] s1)
 (hret:∀ fr' H' cs,fr' 6= .ptr (.new k6) 0→H'.t.get k6=some (.row cs 0 false (some 88))→cs.length=10→KK .ret fr' H'=some (.ret (.agg cs),H'))
 (hgo:∀ v s1 fr' H' y cs' lv',p= .val v s1→¬badP t l.length v→StZ F km H' (bs++y) s1 0→ValZ H' (bs++y) v cs'→cs'.length=10→Acc H0.n H' 88 10 (i+1) (cells++cs') lv'→KeepQ H0 H'→StayQ H H'→H'.t.get k4=some (.row [.int .i64 10,.str t,qE ns,vXs l] 0 false (some 28))→H'.t.get k6=some (.row [AV.int .i64 0,.str [],.nilp,.nilp,.int .i64 0,.str [],.nils,.nils,.nils,.nils] 0 false (some 88))→fr' 7=lv'→fr' 8= .int .i64 (i+1:Nat)→fr' 0=fr 0→fr' 2=fr 2→fr' 4=fr 4→fr' 6=fr 6→GiveQ F km H0 bs0 (KK .normal fr' H') o):
 GiveQ F km H0 bs0 (c60_l0.run (qB P5 n) n fr H KK) o:=by
 have hi:i<l.length:=(List.getElem?_eq_some_iff.1 hx).1
 have hlt:(i:Int)<(l.length:Int):=by omega
 have hw:IntKind.i64.wrap ((i:Int)+1)=((i+1:Nat):Int):=qY (n:=1000) (by omega) (by omega)
 obtain⟨xk,xt,xn,xa⟩:=x
 have ix:xV 4 (vXs l) i=some (.ptr (.val (X.mk xk xt xn xa).cells) 0):=xR hx
 rw[X.v_mk]at hcall
 cases p with
 | stop a b s'=>
   obtain rfl:=hs a b s' rfl
   obtain⟨c0,c1,c2,c3,c4,c5,c6,c7,c8,c9,H',z1,⟨⟨f0,f1,f2,f3,f4⟩,f5,f6,f7,f8,f9⟩,z3,z4⟩:=hcall
   have gm:=z3.m
   simp only[mRow]at gm
   have hb:(a != 0)=true:=by simpa using z3.ne
   have g6':=z4.get _ _ g6 (qR (by decide) (by decide))
   have nkm:¬km=H'.n:=by have:=z3.low.lt z3.m;omega
   have nk6:¬k6=H'.n:=by have:=z3.low.lt g6';omega
   have nk6':¬H'.n=k6:=fun e=>nk6 e.symm
   have l6:=z3.low.lt g6'
   simp -implicitDefEqProofs only[c60_l0,↓qA,ZZ,seval,CL,XS,r0,r2,r4,r6,r7,r8,hlt,g4,ix,X.cells_mk,z1,f0,f1,f2,f3,f4,f5,f6,f7,f8,f9,gm,nkm,hb,g6',nk6,nk6']
   rw[hret _ _ [c0,c1,c2,c3,c4,c5,c6,c7,c8,c9] (by simp -implicitDefEqProofs only[↓qA,ZZ,seval,r6]) (by rw[qD,if_pos rfl]) rfl]
   refine⟨c0,c1,c2,c3,c4,c5,c6,c7,c8,c9,_,rfl,⟨⟨f0,f1,f2,f3,f4⟩,f5,f6,f7,f8,f9⟩,⟨?_,?_,z3.ne⟩,?_⟩
   · exact((z3.low.push).put (by rw[h_n];omega)).put (by simp only[zO,h_n];omega)
   · have:¬km=k6:=yJ z3.m g6' (by decide)
     rw[qD,if_neg this,qD,if_neg nkm,qF,if_neg nkm];exact z3.m
   · have k1:=(kp.trans z4).trans (HKeep.push z3.low (ob:= .row [AV.int .i64 0,.str [],.nilp,.nilp,.int .i64 0,.str [],.nils,.nils,.nils,.nils] 0 false (some 88)))
     exact(k1.own low0 (by have:=k1.n;have:=(kp.trans z4).n;omega) (by rw[h_n];omega)).own low0 hk6 (by simp only[zO,h_n];omega)
 | val v s1 =>
   obtain⟨cs,H',y,z1,z2,z3,z4⟩:=hcall
   have z2':=z2
   obtain⟨tx,c2,c3,c4,c5,c6,c7,c8,c9,rfl,_,_,_,⟨f2,f3,f4,f5⟩,⟨f6,f7,f8,f9⟩⟩:=z2.ten
   have gm:=z3.m
   simp only[mRow]at gm
   have g4':=z4.get _ _ g4 (qR (by decide) (by decide))
   have g6':=z4.get _ _ g6 (qR (by decide) (by decide))
   have nkm:¬km=H'.n:=by have:=z3.low.lt z3.m;omega
   have nk4:¬k4=H'.n:=by have:=z3.low.lt g4';omega
   have nk6:¬k6=H'.n:=by have:=z3.low.lt g6';omega
   have nk6':¬H'.n=k6:=fun e=>nk6 e.symm
   have nk4':¬H'.n=k4:=fun e=>nk4 e.symm
   have st5:=(z3.push (ob:= .row [AV.int .i64 0,.str [],.nilp,.nilp,.int .i64 0,.str [],.nils,.nils,.nils,.nils] 0 false (some 88))).box (k:=H'.n) (t:=88) (by rw[qF,if_pos rfl]) (by decide) (ob:= .row [.int .i64 v.kind,.str tx,c2,c3,c4,c5,c6,c7,c8,c9] 0 false (some 88))
   have k5:KeepQ H' ((H'.push (.row [AV.int .i64 0,.str [],.nilp,.nilp,.int .i64 0,.str [],.nils,.nils,.nils,.nils] 0 false (some 88))).put H'.n (.row [.int .i64 v.kind,.str tx,c2,c3,c4,c5,c6,c7,c8,c9] 0 false (some 88))):=(HKeep.push z3.low).own z3.low (Nat.le_refl _) (by rw[h_n];omega)
   obtain⟨ob,xl,cs',hlay,htak,hv',hlen',hfl',rc,fz,rfl⟩:=aCm z2'
   have acc1:=(acc.kept z4 (fun j _ hj=>qR (by decide) (by decide)))
   have acc2:=(acc1.push z3.low (ob:= .row [AV.int .i64 0,.str [],.nilp,.nilp,.int .i64 0,.str [],.nils,.nils,.nils,.nils] 0 false (some 88))).put (by decide) (k:=H'.n) (cs:=[AV.int .i64 0,.str [],.nilp,.nilp,.int .i64 0,.str [],.nils,.nils,.nils,.nils]) (fz:=false) (ty:=some 88) (by rw[qF,if_pos rfl]) (ob:= .row [.int .i64 v.kind,.str tx,c2,c3,c4,c5,c6,c7,c8,c9] 0 false (some 88))
   have kpA:=(kp.trans z4).trans k5
   have low5:=st5.low
   have acc3:=acc2.push low5 (ob:= .row rc 0 fz none)
   obtain⟨H7,happ,acc7,kb7,low7,hn7⟩:=acc3.one_more (e:=88) (bs:=160) (ys:=cs') (by have:=kpA.n;simp only[zO,h_n]at this ⊢;omega) low5.push (by decide) hlen' hfl' (by omega)
   simp only[zO,h_n]at happ acc7
   have kH7:KeepQ H0 H7:=acc3.keeps (kpA.pushed low0) low0 kb7
   have sy5:StayQ H ((H'.push (.row [AV.int .i64 0,.str [],.nilp,.nilp,.int .i64 0,.str [],.nils,.nils,.nils,.nils] 0 false (some 88))).put H'.n (.row [.int .i64 v.kind,.str tx,c2,c3,c4,c5,c6,c7,c8,c9] 0 false (some 88))):=z4.stayQ.trans k5.stayQ
   have st6:=st5.push (ob:= .row rc 0 fz none)
   have sy6:=StayQ.push low5 (ob:= .row rc 0 fz none)
   have sy7:=acc3.stayQ kb7
   have st7:StZ F km H7 (bs++y) s1 0:=st6.keep low7 sy7 fun j cs t g _=>acc3.row (by decide) kb7 g
   have hv7:ValZ H7 (bs++y) v cs':=((hv'.stay k5.stayQ).stay sy6).stay sy7
   have g45:=k5.get _ _ g4' (qR (by decide) (by decide))
   have g65:=k5.get _ _ g6' (qR (by decide) (by decide))
   have g47:H7.t.get k4=some (.row [.int .i64 10,.str t,qE ns,vXs l] 0 false (some 28)):=acc3.row (by decide) kb7 (by rw[qF,if_neg (by have:=low5.lt g45;omega)];exact g45)
   have g67:H7.t.get k6=some (.row [AV.int .i64 0,.str [],.nilp,.nilp,.int .i64 0,.str [],.nils,.nils,.nils,.nils] 0 false (some 88)):=acc3.row (by decide) kb7 (by rw[qF,if_neg (by have:=low5.lt g65;omega)];exact g65)
   have htak':=htak ((H'.push (.row [AV.int .i64 0,.str [],.nilp,.nilp,.int .i64 0,.str [],.nils,.nils,.nils,.nils] 0 false (some 88))).put H'.n (.row [.int .i64 v.kind,.str tx,c2,c3,c4,c5,c6,c7,c8,c9] 0 false (some 88)))
   simp only[zO,h_n]at htak'
   have hg0:((0:Int) != 0)=false:=rfl
   cases h1:(t==[115,101,113])with
   | true=>
     have hnb:¬badP t l.length v:=fun h=>h.1 (by simpa[seqT]using h1)
     simp -implicitDefEqProofs only[c60_l0,↓qA,ZZ,seval,CL,XS,r0,r2,r4,r6,r7,r8,hlt,hw,g4,ix,X.cells_mk,z1,f2,f3,f4,f5,f6,f7,f8,f9,gm,nkm,hg0,g4',nk4,nk4',↓hlay,htak',happ,h1]
     refine hgo v s1 _ _ y cs' _ rfl hnb st7 hv7 hlen' acc7 kH7 ((sy5.trans sy6).trans sy7) g47 g67 ?_ ?_ ?_ ?_ ?_ ?_<;>simp -implicitDefEqProofs only[↓qA,ZZ,seval,r0,r2,r4,r6]
   | false =>
     cases h2:(t==[101,113,63])with
     | true=>
       have hnb:¬badP t l.length v:=fun h=>h.2.1 (by simpa[eqP]using h2)
       simp -implicitDefEqProofs only[c60_l0,↓qA,ZZ,seval,CL,XS,r0,r2,r4,r6,r7,r8,hlt,hw,g4,ix,X.cells_mk,z1,f2,f3,f4,f5,f6,f7,f8,f9,gm,nkm,hg0,g4',nk4,nk4',↓hlay,htak',happ,h1,h2]
       refine hgo v s1 _ _ y cs' _ rfl hnb st7 hv7 hlen' acc7 kH7 ((sy5.trans sy6).trans sy7) g47 g67 ?_ ?_ ?_ ?_ ?_ ?_<;>simp -implicitDefEqProofs only[↓qA,ZZ,seval,r0,r2,r4,r6]
     | false=>
       cases h3:((l.length:Int)==2)with
       | false=>
         have hnb:¬badP t l.length v:=fun h=>by
          have:=h.2.2.1
          rw[this]at h3;exact absurd h3 (by decide)
         simp -implicitDefEqProofs only[c60_l0,↓qA,ZZ,seval,CL,XS,r0,r2,r4,r6,r7,r8,hlt,hw,g4,ix,X.cells_mk,z1,f2,f3,f4,f5,f6,f7,f8,f9,gm,nkm,hg0,g4',nk4,nk4',↓hlay,htak',happ,h1,h2,h3]
         refine hgo v s1 _ _ y cs' _ rfl hnb st7 hv7 hlen' acc7 kH7 ((sy5.trans sy6).trans sy7) g47 g67 ?_ ?_ ?_ ?_ ?_ ?_<;>simp -implicitDefEqProofs only[↓qA,ZZ,seval,r0,r2,r4,r6]
       | true=>
         cases h4:(v.kind != 1)with
         | false=>
           have hnb:¬badP t l.length v:=fun h=>by
            have:=h.2.2.2
            simp only[bne_eq_false_iff_eq]at h4
            exact this h4
           simp -implicitDefEqProofs only[c60_l0,↓qA,ZZ,seval,CL,XS,r0,r2,r4,r6,r7,r8,hlt,hw,g4,ix,X.cells_mk,z1,f2,f3,f4,f5,f6,f7,f8,f9,gm,nkm,hg0,g4',nk4,nk4',↓hlay,htak',happ,h1,h2,h3,h4]
           refine hgo v s1 _ _ y cs' _ rfl hnb st7 hv7 hlen' acc7 kH7 ((sy5.trans sy6).trans sy7) g47 g67 ?_ ?_ ?_ ?_ ?_ ?_<;>simp -implicitDefEqProofs only[↓qA,ZZ,seval,r0,r2,r4,r6]
         | true=>
           have hbad:badP t l.length v:=⟨by simpa[seqT]using h1,by simpa[eqP]using h2,by simp at h3;omega,by simpa using h4⟩
           obtain rfl:=hnum v s1 rfl hbad
           simp -implicitDefEqProofs only[c60_l0,↓qA,ZZ,seval,CL,XS,r0,r2,r4,r6,r7,r8,hlt,hw,g4,ix,X.cells_mk,z1,f2,f3,f4,f5,f6,f7,f8,f9,gm,nkm,hg0,g4',nk4,nk4',↓hlay,htak',happ,h1,h2,h3,h4]
           refine xH (e50 F km _ (bs++y) 2 _ s1 st5.low st5.m (by decide)) kpA low0 (k:=k6) hk6 g65 rfl r6 (by decide) ?_
           intro fr' H' cs hb hk hl
           simp -implicitDefEqProofs only[↓qA,ZZ,seval,hb,hk,hl,List.take_of_length_le (Nat.le_of_eq hl)]
           exact hret fr' H' cs hb hk hl
end Go.Lite
/-
  The reference's primitives, whole.
-/
namespace Go.Lite
open Go Go.Proofs
abbrev boxH (H:Heap) (row:List AV):Heap:=(H.push (.row row 0 false (some 28))).push (.row [AV.int .i64 0,.str [],.nilp,.nilp,.int .i64 0,.str [],.nils,.nils,.nils,.nils] 0 false (some 88))
theorem nU {H:Heap}{row:List AV}:(boxH H row).t.get H.n=some (.row row 0 false (some 28)):=by rw[qF,if_neg (by rw[h_n];omega),qF,if_pos rfl]
theorem pY {H:Heap}{row:List AV}:(boxH H row).t.get (H.n+1)=some (.row [AV.int .i64 0,.str [],.nilp,.nilp,.int .i64 0,.str [],.nils,.nils,.nils,.nils] 0 false (some 88)):=by rw[qF,if_pos (by rw[h_n])]
theorem a5q {F km d:Nat}{H:Heap}{bs:List Nat}{e:X}{env:Env}{ev:AV}{s:S}{r:R}(h:a3J H bs e env ev r) (he:EnvZ H bs env ev) (st:StZ F km H bs s d):∃ cv H' x,r=some (.ret cv,H')∧StZ F km H' (bs++x) (argA e env s).2 d∧PC (bs++x) (argA e env s).1 cv∧KeepQ H H':=by
 obtain⟨cv,H',e1,V',x,h1,h2,h3,h4,h5,h6⟩:=a2V (s:=s) h he st.low View.refl st
 exact⟨cv,H',x,e1,h1.view h3 (h5.low st.low),h2,h5⟩
set_option maxHeartbeats 4000000 in
theorem a8n {F:Nat}(ns:List Str) (a b:X) (env:Env) (s:S) (hr:Room (.mk 10 kY ns [a,b]) env):
 Ev fun n=>∀ km H bs ev,StZ F km H bs s 0→EnvZ H bs env ev→GiveQ F km H bs (qB P5 n 60 [.ptr (.new km) 0,(X.mk 10 kY ns [a,b]).v,ev] H) (.val (.pair (argA a env s).1 (argA b env (argA a env s).2).1) (argA b env (argA a env s).2).2):=by
 have ra:Room a env:=hr.sub (by omega) (by simp)
 have rb:Room b env:=hr.sub (by omega) (by simp)
 refine Ev.succ (((a6E a env ra).and ((a6E b env rb).and (Ev.ge 3))).mono fun n hn km H bs ev st he=> ?_)
 obtain⟨eA,eB,hn⟩:=hn
 rw[qG (P:=P5) (sf:=c60) rfl (a6L _ _) rfl rfl,X.v_mk]
 have low:=st.low
 have st2:StZ F km (boxH H [.int .i64 10,.str kY,qE ns,vXs [a,b]]) bs s 0:=st.push.push
 have k2:KeepQ H (boxH H [.int .i64 10,.str kY,qE ns,vXs [a,b]]):=(HKeep.push low).pushed low
 have g4:=nU (H:=H) (row:=[.int .i64 10,.str kY,qE ns,vXs [a,b]])
 have g6:=pY (H:=H) (row:=[.int .i64 10,.str kY,qE ns,vXs [a,b]])
 obtain⟨ca,H3,x,z1,z2,z3,z4⟩:=a5q (eA _ bs ev st2.low (he.stay k2.stayQ)) (he.stay k2.stayQ) st2
 have he3:EnvZ H3 (bs++x) env ev:=(he.stay k2.stayQ).keep z4.stayQ
 obtain⟨cb,H4,y,w1,w2,w3,w4⟩:=a5q (eB _ (bs++x) ev z2.low he3) he3 z2
 have g43:=z4.get _ _ g4 (qR (by decide) (by decide))
 have g64:=w4.get _ _ (z4.get _ _ g6 (qR (by decide) (by decide))) (qR (by decide) (by decide))
 obtain⟨ka,ta,na,la⟩:=a
 obtain⟨kb,tb,nb,lb⟩:=b
 have i0:xV 4 (vXs [.mk ka ta na la,.mk kb tb nb lb]) 0=some (.ptr (.val (X.mk ka ta na la).cells) 0):=xR rfl
 have i1:xV 4 (vXs [.mk ka ta na la,.mk kb tb nb lb]) 1=some (.ptr (.val (X.mk kb tb nb lb).cells) 0):=xR rfl
 rw[X.v_mk]at z1 w1
 have fa:ca.flat=true:=by obtain⟨_,_,rfl⟩:=z3;rfl
 have fb:cb.flat=true:=by obtain⟨_,_,rfl⟩:=w3;rfl
 have hbq:(kY==[99,111,110,115])=true:=rfl
 simp only[kY]at z1 w1 g43 g64 hbq
 simp -implicitDefEqProofs only[c60,↓qA,ZZ,seval,CL,XS,kY,hbq,Int.reduceLE,Int.reduceToNat,i0,i1,X.cells_mk,z1,g43,w1,g64,fa,fb]
 have kk:=(k2.trans z4).trans w4
 refine GiveQ.more (x:=x) (GiveQ.more (x:=y) (kW (w2.box g64 (by decide)) ⟨ca,cb,rfl,z3.more,w3⟩ (kk.own low (by omega) (w2.low.lt g64))))
theorem a3b {r:R}{call:xG}{d:Nat}{fr:Fr}{o:SOper}{K:Fr→Heap→R}:rG r call (some d) [] fr (ckK call [] [] [(o,[],[])] K)=rG r call (some d) [o] fr K:=rfl
theorem a4Y {H:Heap}{bs:List Nat}{v:V}{cs:List AV}(h:ValZ H bs v cs):∃ t c2 c3 c4 c5 c6 c7 c8 c9,cs=[.int .i64 v.kind,.str t,c2,c3,c4,c5,c6,c7,c8,c9]∧t=v.text:=by
 obtain⟨t,c2,c3,c4,c5,c6,c7,c8,c9,h1,h2,_⟩:=h.ten
 exact⟨t,c2,c3,c4,c5,c6,c7,c8,c9,h1,h2⟩
theorem ValZ.num {H:Heap}{bs:List Nat}{v:V}{cs:List AV}(h:ValZ H bs v cs) (hk:v.kind=1):∃ z:Int,z.natAbs<10^200∧v.text=decZ z:=by
 cases v with
 | atom k t=>obtain⟨_,_,_,_,hn,_⟩:=h;exact hn.2 hk
 | pair p q=>simp[V.kind]at hk
 | fn e env g=>simp[V.kind]at hk
set_option maxHeartbeats 4000000 in
theorem a90 {F m:Nat}(ihE:EvalQ F m) (ihF:bJ F m) (t:Str) (ns:List Str) (a:X) (env:Env) (s:S) (o:O V) (hr:Room (.mk 10 t ns [a]) env) (h:((evalA F m a env s).bind fun r=>r.bind fun v s=>oneF (qP F m) t v s)=some o):
 Ev fun n=>∀ km H bs ev,StZ F km H bs s 0→EnvZ H bs env ev→GiveQ F km H bs (qB P5 n 60 [.ptr (.new km) 0,(X.mk 10 t ns [a]).v,ev] H) o:=by
 have ra:Room a env:=hr.sub (by omega) (by simp)
 obtain⟨hu1,hu2,hu3⟩:=hr.2.2.1 rfl rfl
 have b1:(t==[99,111,110,115])=false:=by simpa[kY]using hu1
 have b2:(t==[115,101,113])=false:=by simpa[seqT]using hu2
 have b3:(t==[101,113,63])=false:=by simpa[eqP]using hu3
 have hB:Ev fun n=>∀ p,evalA F m a env s=some p→∀ v s1,p= .val v s1→∀ q,oneF (qP F m) t v s1=some q→∀ km H bs cs,StZ F km H bs s1 0→ValZ H bs v cs→GiveQ F km H bs (qB P5 n 83 [.ptr (.new km) 0,.str t,.agg cs] H) q:=
  Ev.opt fun p hp=>Ev.val fun v s1 _=>Ev.opt fun q hq=>aB4 ihF t v s1 q hq
 refine Ev.succ (((ihE.get a env s ra).and (hB.and (stop50.and (Ev.ge 3)))).mono fun n hn km H bs ev st he=> ?_)
 obtain⟨eA,eB,e50,hn⟩:=hn
 rw[qG (P:=P5) (sf:=c60) rfl (a6L _ _) rfl rfl,X.v_mk]
 obtain⟨p,hp,h⟩:=Option.bind_eq_some_iff.1 h
 have low:=st.low
 have st2:StZ F km (boxH H [.int .i64 10,.str t,qE ns,vXs [a]]) bs s 0:=st.push.push
 have k2:KeepQ H (boxH H [.int .i64 10,.str t,qE ns,vXs [a]]):=(HKeep.push low).pushed low
 have g4:=nU (H:=H) (row:=[.int .i64 10,.str t,qE ns,vXs [a]])
 have g6:=pY (H:=H) (row:=[.int .i64 10,.str t,qE ns,vXs [a]])
 have he2:=he.stay k2.stayQ
 have hcall:=eA p hp km _ bs ev (st2.weak (by omega)) he2
 obtain⟨n,rfl⟩:∃ j,n=j+2:=⟨n-2,by omega⟩
 simp -implicitDefEqProofs only[c60,↓qA,ZZ,seval,CL,XS,b1]
 rw[a3y]
 refine a4G (i:=0) (H0:=H) (x:=a) (k4:=H.n) (k6:=H.n+1) (lv:= .nils) (cells:=[]) rfl (by simp) low k2 (Nat.le_refl _) (by omega) (by omega) st2 he2 Acc.nil g4 g6 rfl rfl rfl rfl rfl rfl hcall e50 ?_ ?_ ?_ ?_
 · rintro a b s' rfl
   exact(Option.some.inj h).symm
 · rintro v s1 rfl ⟨_,_,hl,_⟩
   simp at hl
 · intro fr' H' cs h6 g6' hl
   simp -implicitDefEqProofs only[↓qA,ZZ,seval,CL,h6,g6',hl,List.take_of_length_le (Nat.le_of_eq hl)]
 · rintro v s1 fr' H' y cs' lv' rfl hnb st' hv hlen acc kp sy g4' g6' q7 q8 q0 q2 q4 q6
   simp -implicitDefEqProofs only[↓qA,ZZ,seval]at q0 q2 q4 q6
   have hq:oneF (qP F m) t v s1=some o:=h
   obtain⟨tx,c2,c3,c4,c5,c6,c7,c8,c9,rfl,htx⟩:=a4Y hv
   rcases acc with⟨hz,_⟩|⟨_,_,kl,rfl,hkl,gl⟩
   · omega
   have hg:=(eB _ hp v s1 rfl o hq km H' (bs++y) _ st' hv).more
   have hlt:¬((1:Nat):Int)<((1:Nat):Int):=by omega
   have hl1:(((0+1:Nat):Int)==2)=false:=rfl
   simp only[Nat.zero_add,List.nil_append]at q8 gl q7 hl1
   simp -implicitDefEqProofs only[↓qA,ZZ,seval]
   rw[qX]
   simp -implicitDefEqProofs only[c60_l0,↓qA,ZZ,seval,CL,XS,q0,q2,q4,q6,q7,q8,g4',hlt,b2,b3,hl1,gl,Int.reduceLE,Int.reduceToNat,show(0:Nat)<1 from by decide,Nat.zero_mul]
   rw[a3b]
   refine xH (k:=H.n+1) hg kp low (by omega) g6' rfl q6 (by decide) ?_
   intro fr' H' cs hb hk hl
   simp -implicitDefEqProofs only[↓qA,ZZ,seval,hb,hk,hl,List.take_of_length_le (Nat.le_of_eq hl)]
set_option maxHeartbeats 4000000 in
theorem aBH {F m:Nat}(ihE:EvalQ F m) (t:Str) (ns:List Str) (a b:X) (env:Env) (s:S) (o:O V) (hr:Room (.mk 10 t ns [a,b]) env) (hc:t≠kY) (h:twoF F m t a b env s=some o):
 Ev fun n=>∀ km H bs ev,StZ F km H bs s 0→EnvZ H bs env ev→GiveQ F km H bs (qB P5 n 60 [.ptr (.new km) 0,(X.mk 10 t ns [a,b]).v,ev] H) o:=by
 have ra:Room a env:=hr.sub (by omega) (by simp)
 have rb:Room b env:=hr.sub (by omega) (by simp)
 have b1:(t==[99,111,110,115])=false:=by simpa[kY]using hc
 unfold twoF at h
 rw[if_neg hc]at h
 have hB:Ev fun n=>∀ p,evalA F m a env s=some p→∀ v s1,p= .val v s1→∀ q,evalA F m b env s1=some q→∀ km H bs ev,StZ F km H bs s1 1→EnvZ H bs env ev→GiveQ F km H bs (qB P5 n 29 [.ptr (.new km) 0,b.v,ev] H) q:=
  Ev.opt fun p hp=>Ev.val fun v s1 _=>ihE.get b env s1 rb
 have hN:Ev fun n=>∀ p,evalA F m a env s=some p→∀ v s1,p= .val v s1→∀ q,evalA F m b env s1=some q→∀ w s2,q= .val w s2→∀ x y:Int,(x.natAbs<10^200∧y.natAbs<10^200∧v.text=decZ x∧w.text=decZ y)→∀ F km H bs s,StZ F km H bs s 0→GiveQ F km H bs (qB P5 n 82 [.ptr (.new km) 0,.str t,.str (decZ x),.str (decZ y)] H) (y8 t (decZ x) (decZ y) s):=
  Ev.opt fun p hp=>Ev.val fun v s1 _=>Ev.opt fun q hq=>Ev.val fun w s2 _=>by
   by_cases hx:∃ x:Int,x.natAbs<10^200∧v.text=decZ x
   · by_cases hy:∃ y:Int,y.natAbs<10^200∧w.text=decZ y
     · obtain⟨x,x1,x2⟩:=hx
       obtain⟨y,y1,y2⟩:=hy
       refine(aAO t x y x1 y1).mono fun n hn x' y' ⟨h1,h2,h3,h4⟩=> ?_
       have e1:=a1p (x2.symm.trans h3)
       have e2:=a1p (y2.symm.trans h4)
       subst e1 e2
       exact hn
     · exact Ev.of fun n x y ⟨h1,h2,h3,h4⟩=>absurd ⟨y,h2,h4⟩ hy
   · exact Ev.of fun n x y ⟨h1,h2,h3,h4⟩=>absurd ⟨x,h1,h3⟩ hx
 refine Ev.succ (((ihE.get a env s ra).and (hB.and (hN.and (stop50.and (plain58.and (truth66.and (Ev.ge 3))))))).mono fun n hn km H bs ev st he=> ?_)
 obtain⟨eA,eB,eN,e50,e58,e66,hn⟩:=hn
 rw[qG (P:=P5) (sf:=c60) rfl (a6L _ _) rfl rfl,X.v_mk]
 obtain⟨p,hp,h⟩:=Option.bind_eq_some_iff.1 h
 have low:=st.low
 have st2:StZ F km (boxH H [.int .i64 10,.str t,qE ns,vXs [a,b]]) bs s 0:=st.push.push
 have k2:KeepQ H (boxH H [.int .i64 10,.str t,qE ns,vXs [a,b]]):=(HKeep.push low).pushed low
 have g4:=nU (H:=H) (row:=[.int .i64 10,.str t,qE ns,vXs [a,b]])
 have g6:=pY (H:=H) (row:=[.int .i64 10,.str t,qE ns,vXs [a,b]])
 have he2:=he.stay k2.stayQ
 have hcall:=eA p hp km _ bs ev (st2.weak (by omega)) he2
 obtain⟨n,rfl⟩:∃ j,n=j+3:=⟨n-3,by omega⟩
 have hrt:∀ (fr':Fr) (H':Heap) (cs:List AV),fr' 6= .ptr (.new (H.n+1)) 0→H'.t.get (H.n+1)=some (.row cs 0 false (some 88))→cs.length=10→(resVals fr' H' [.celln 6 10]).map (fun vs=>((.ret (oneOr vs):Out),H'))=some (.ret (.agg cs),H'):=by
  intro fr' H' cs h6 g6' hl
  simp -implicitDefEqProofs only[↓qA,ZZ,seval,h6,g6',hl,List.take_of_length_le (Nat.le_of_eq hl)]
 simp -implicitDefEqProofs only[c60,↓qA,ZZ,seval,CL,XS,b1]
 rw[a1V]
 refine a4G (i:=0) (H0:=H) (x:=a) (k4:=H.n) (k6:=H.n+1) (lv:= .nils) (cells:=[]) rfl (by simp) low k2 (Nat.le_refl _) (by omega) (by omega) st2 he2 Acc.nil g4 g6 rfl rfl rfl rfl rfl rfl hcall e50 ?_ ?_ ?_ ?_
 · rintro a b s' rfl
   exact(Option.some.inj h).symm
 · rintro v s1 rfl ⟨h1,h2,_,h4⟩
   replace h:(if t=seqT then _ else _)=some o:=h
   rw[if_neg h1,if_neg h2,if_pos h4]at h
   exact(Option.some.inj h).symm
 · intro fr' H' cs h6 g6' hl
   simp -implicitDefEqProofs only[↓qA,ZZ,seval,CL,h6,g6',hl,List.take_of_length_le (Nat.le_of_eq hl)]
 rintro v s1 fr' H' y cs' lv' rfl hnb st' hv hlen acc kp sy g4' g6' q7 q8 q0 q2 q4 q6
 simp -implicitDefEqProofs only[↓qA,ZZ,seval]at q0 q2 q4 q6
 have he3:EnvZ H' (bs++y) env ev:=he2.keep sy
 replace h:(if t=seqT then evalA F m b env s1 else if t=eqP then(evalA F m b env s1).bind (fun r=>r.bind fun w s=>some (.val (zC (decide (v.kind<5)&&(v.kind==w.kind&&v.text==w.text))) s))else if v.kind≠1 then some (.stop 2 [110,117,109,98,101,114] s1)else(evalA F m b env s1).bind (fun r=>r.bind fun w s=>if w.kind≠1 then some (.stop 2 [110,117,109,98,101,114] s)else some (y8 t v.text w.text s)))=some o:=h
 obtain⟨q,hq⟩:∃ q,evalA F m b env s1=some q:=by
  by_cases h1:t=seqT
  · rw[if_pos h1]at h;exact⟨o,h⟩
  rw[if_neg h1]at h
  by_cases h2:t=eqP
  · rw[if_pos h2]at h;obtain⟨q,hq,_⟩:=Option.bind_eq_some_iff.1 h;exact⟨q,hq⟩
  rw[if_neg h2]at h
  by_cases h4:v.kind≠1
  · exact absurd ⟨h1,h2,rfl,h4⟩ hnb
  rw[if_neg h4]at h
  obtain⟨q,hq,_⟩:=Option.bind_eq_some_iff.1 h;exact⟨q,hq⟩
 have hcall2:=eB _ hp v s1 rfl q hq km H' (bs++y) ev (st'.weak (by omega)) he3
 simp only[Nat.zero_add,List.nil_append]at q8 acc
 simp -implicitDefEqProofs only[↓qA,ZZ,seval]
 rw[a3y]
 refine a4G (i:=1) (H0:=H) (bs0:=bs) (x:=b) (k4:=H.n) (k6:=H.n+1) (lv:=lv') (cells:=cs') rfl (by simp) low kp (Nat.le_refl _) (by omega) (by omega) st' he3 acc g4' g6' q0 q2 q4 q6 q7 q8 hcall2 e50 ?_ ?_ ?_ ?_
 · rintro a b s' rfl
   by_cases h1:t=seqT
   · rw[if_pos h1,hq]at h;exact(Option.some.inj h).symm
   rw[if_neg h1]at h
   by_cases h2:t=eqP
   · rw[if_pos h2,hq]at h;exact(Option.some.inj h).symm
   rw[if_neg h2]at h
   by_cases h4:v.kind≠1
   · exact absurd ⟨h1,h2,rfl,h4⟩ hnb
   rw[if_neg h4,hq]at h;exact(Option.some.inj h).symm
 · rintro w s2 rfl ⟨h1,h2,_,h4⟩
   rw[if_neg h1,if_neg h2]at h
   by_cases h5:v.kind≠1
   · exact absurd ⟨h1,h2,rfl,h5⟩ hnb
   rw[if_neg h5,hq]at h
   simp only[Option.bind_some,O.bind,if_pos h4]at h
   exact(Option.some.inj h).symm
 · intro fr' H' cs h6 g6' hl
   simp -implicitDefEqProofs only[↓qA,ZZ,seval,CL,h6,g6',hl,List.take_of_length_le (Nat.le_of_eq hl)]
 rintro w s2 fr2 H2 z cs2 lv2 rfl hnb2 st3 hw hlen2 acc2 kp2 sy2 g42 g62 p7 p8 p0 p2 p4 p6
 rw[q0]at p0
 rw[q2]at p2
 rw[q4]at p4
 rw[q6]at p6
 have hv2:ValZ H2 ((bs++y)++z) v cs':=hv.keep sy2
 obtain⟨tx,c2,c3,c4,c5,c6,c7,c8,c9,rfl,htx⟩:=a4Y hv2
 have hwc:=hw
 obtain⟨ty,d2,d3,d4,d5,d6,d7,d8,d9,rfl,hty,_,_,⟨e2,e3,e4,e5⟩,⟨e6,e7,e8,e9⟩⟩:=hw.ten
 rcases acc2 with⟨hz,_⟩|⟨_,_,kl,rfl,hkl,gl⟩
 · omega
 have hlt:¬((2:Nat):Int)<((2:Nat):Int):=by omega
 have hl2:(((2:Nat):Int)==2)=true:=rfl
 simp only[Nat.reduceAdd]at p8 gl p7
 simp -implicitDefEqProofs only[↓qA,ZZ,seval]
 rw[qX]
 by_cases hsq:t=seqT
 · subst hsq
   obtain rfl:=(Option.some.inj (hq.symm.trans (by rw[if_pos rfl]at h;exact h))).symm
   simp only[seqT]at g42 ⊢
   simp -implicitDefEqProofs only[c60_l0,↓qA,ZZ,seval,CL,XS,p0,p2,p4,p6,p7,p8,g42,hlt,gl,Int.reduceLE,Int.reduceToNat,show(1:Nat)<2 from by decide,Nat.one_mul,e2,e3,e4,e5,e6,e7,e8,e9,g62]
   exact GiveQ.more (x:=y) (GiveQ.more (x:=z) (kW (st3.box g62 (by decide)) (hwc.stay (StayQ.put g62 (by decide) (by decide))) (kp2.own low (by omega) (st3.low.lt g62))))
 have b2:(t==[115,101,113])=false:=by simpa[seqT]using hsq
 rw[if_neg hsq,hq]at h
 by_cases heq:t=eqP
 · subst heq
   rw[if_pos rfl]at h
   obtain rfl:=(Option.some.inj h).symm
   have b3:(eqP==[101,113,63])=true:=rfl
   simp only[eqP]at g42 b2 b3 ⊢
   have nkl:¬kl=H2.n:=by have:=st3.low.lt gl;omega
   have n62:¬H.n+1=H2.n:=by have:=st3.low.lt g62;omega
   have hfin:∀ (b:Bool) (ob:Obj),GiveQ F km H bs (some (.ret (.agg (kZ b)),(H2.push ob).put (H.n+1) (.row (kZ b) 0 false (some 88)))) (.val (zC b) s2):=fun b ob=>by
    have g6G:(H2.push ob).t.get (H.n+1)=some (.row [AV.int .i64 0,.str [],.nilp,.nilp,.int .i64 0,.str [],.nils,.nils,.nils,.nils] 0 false (some 88)):=by rw[qF,if_neg n62];exact g62
    refine GiveQ.more (x:=y) (GiveQ.more (x:=z) (kW (st3.push.box g6G (by decide)) (sI b) ((kp2.pushed low).own low (by omega) (by rw[h_n];have:=st3.low.lt g62;omega))))
   have e58a:=e58 v.kind (.str tx) c2 c3 c4 c5 c6 c7 c8 c9 H2
   unfold kZ at e66 hfin
   simp only[E0]at e66 hfin
   have hvk:decide (v.kind<5)=decide (1≤v.kind∧v.kind≤4):=by
    obtain⟨_,_,_,_,_,_,_,_,_,_,_,k1,k6,_⟩:=hv2.ten
    exact decide_eq_decide.2 (by omega)
   rw[hvk,←htx,←hty]
   cases hpl:decide (1≤v.kind∧v.kind≤4)with
   | false=>
     rw[hpl]at e58a
     have hf:=hfin false
     simp -implicitDefEqProofs only[c60_l0,↓qA,ZZ,seval,CL,XS,p0,p2,p4,p6,p7,p8,g42,hlt,b2,b3,gl,Int.reduceLE,Int.reduceToNat,show(1:Nat)<2 from by decide,show(0:Nat)<2 from by decide,Nat.one_mul,Nat.zero_mul,e58a,e66,g62,n62,nkl]
     exact hf _
   | true=>
     rw[hpl]at e58a
     cases hkk:(v.kind==w.kind)with
     | false=>
       have hf:=hfin false
       simp -implicitDefEqProofs only[c60_l0,↓qA,ZZ,seval,CL,XS,p0,p2,p4,p6,p7,p8,g42,hlt,b2,b3,gl,Int.reduceLE,Int.reduceToNat,show(1:Nat)<2 from by decide,show(0:Nat)<2 from by decide,Nat.one_mul,Nat.zero_mul,e58a,e66,g62,n62,nkl,hkk]
       exact hf _
     | true=>
       have hf:=hfin (tx==ty)
       simp -implicitDefEqProofs only[c60_l0,↓qA,ZZ,seval,CL,XS,p0,p2,p4,p6,p7,p8,g42,hlt,b2,b3,gl,Int.reduceLE,Int.reduceToNat,show(1:Nat)<2 from by decide,show(0:Nat)<2 from by decide,Nat.one_mul,Nat.zero_mul,e58a,e66,g62,n62,nkl,hkk]
       exact hf _
 rw[if_neg heq]at h
 have b3:(t==[101,113,63])=false:=by simpa[eqP]using heq
 have hv1:v.kind=1:=Classical.byContradiction fun h4=>hnb ⟨hsq,heq,rfl,h4⟩
 have hw1:w.kind=1:=Classical.byContradiction fun h4=>hnb2 ⟨hsq,heq,rfl,h4⟩
 rw[if_neg (by simp[hv1])]at h
 simp only[Option.bind_some,O.bind,hw1,ne_eq,not_true_eq_false,if_false]at h
 obtain rfl:=(Option.some.inj h).symm
 obtain⟨x1,hx1,hx2⟩:=hv2.num hv1
 obtain⟨y1,hy1,hy2⟩:=hwc.num hw1
 have hN:=eN _ hp v s1 rfl _ hq w s2 rfl x1 y1 ⟨hx1,hy1,hx2,hy2⟩ F km H2 ((bs++y)++z) s2 st3
 rw[←hx2,←hy2,←htx,←hty]at hN
 rw[←htx,←hty]
 simp -implicitDefEqProofs only[c60_l0,↓qA,ZZ,seval,CL,XS,p0,p2,p4,p6,p7,p8,g42,hlt,b2,b3,gl,Int.reduceLE,Int.reduceToNat,show(1:Nat)<2 from by decide,show(0:Nat)<2 from by decide,Nat.one_mul,Nat.zero_mul,hl2]
 rw[a3b]
 refine xH (k:=H.n+1) hN.more.more kp2 low (by omega) g62 rfl p6 (by decide) ?_
 intro fr' H' cs hb hk hl
 simp -implicitDefEqProofs only[↓qA,ZZ,seval,hb,hk,hl,List.take_of_length_le (Nat.le_of_eq hl)]
end Go.Lite
/-
  The reference's eval, whole: eval, force, apply come to what the machine comes to.
-/
namespace Go.Lite
open Go Go.Proofs
def a0N (F:Nat) (k:Int) (t:Str) (ns:List Str) (l:List X) (env:Env) (s:S) (o:O V) (n:Nat):Prop:=∀ km H bs ev,StZ F km H bs s 1→EnvZ H bs env ev→¬s.steps+1>F→
 GiveQ F km H bs (qB P5 n 29 [.ptr (.new km) 0,.agg [.int .i64 k,.str t,qE ns,vXs l],ev] H) o
abbrev a2J (F km:Nat) (H:Heap) (s:S) (row:List AV):Heap:=(boxH H row).put km (.row [.int .i64 (s.steps+1:Nat),.int .i64 s.uses,.int .i64 F,.int .i64 0,.str [],.int .i64 0] 0 false (some 83))
structure PreQ (F km:Nat) (H:Heap) (bs:List Nat) (env:Env) (ev:AV) (s:S) (row:List AV):Prop where
 st:StZ F km (a2J F km H s row) bs s.tick 0
 kp:KeepQ H (a2J F km H s row)
 env:EnvZ (a2J F km H s row) bs env ev
 g0:(a2J F km H s row).t.get H.n=some (.row row 0 false (some 28))
 g1:(a2J F km H s row).t.get (H.n+1)=some (.row [AV.int .i64 0,.str [],.nilp,.nilp,.int .i64 0,.str [],.nils,.nils,.nils,.nils] 0 false (some 88))
 gm:H.t.get km=some (.row [.int .i64 s.steps,.int .i64 s.uses,.int .i64 F,.int .i64 0,.str [],.int .i64 0] 0 false (some 83))
 gm2:(boxH H row).t.get km=some (.row [.int .i64 s.steps,.int .i64 s.uses,.int .i64 F,.int .i64 0,.str [],.int .i64 0] 0 false (some 83))
 n0:¬km=H.n
 n1:¬km=H.n+1
 m0:¬H.n=km
 m1:¬H.n+1=km
 low:HLow H
 w:IntKind.i64.wrap ((s.steps:Int)+1)=((s.steps+1:Nat):Int)
 lt:¬((s.steps+1:Nat):Int)>(F:Int)
theorem a1y {F km:Nat}{H:Heap}{bs:List Nat}{env:Env}{ev:AV}{s:S}(row:List AV) (st:StZ F km H bs s 1) (he:EnvZ H bs env ev) (hF:¬s.steps+1>F):PreQ F km H bs env ev s row:=by
 have st2:StZ F km (boxH H row) bs s 1:=st.push.push
 have k2:KeepQ H (boxH H row):=(HKeep.push st.low).pushed st.low
 have k3:=k2.trans (KeepQ.cell st2.m (.inr rfl) st2.low (ob:=mRow F (s.steps+1) s.uses 0 []))
 have lm:=st.low.lt st.m
 have hs:=st.steps
 have hsm:=st.small
 refine⟨st2.count (st:=s.steps+1) (us:=s.uses) (d':=0) (by omega) (by have:=st.uses;omega),k3,he.stay k3.stayQ,?_,?_,st.m,st2.m,by omega,by omega,by omega,by omega,st.low,gT (n:=s.steps) (by omega),by omega⟩
 · rw[qD,if_neg (by omega)];exact nU
 · rw[qD,if_neg (by omega)];exact pY
set_option maxHeartbeats 2000000 in
theorem evQ6 {F:Nat}(t:Str) (ns:List Str) (l:List X) (env:Env) (s:S) (ht:Room (.mk 6 t ns l) env):Ev (a0N F 6 t ns l env s (.val (.fn (.mk 6 t ns l) env []) s.tick)):=by
 refine Ev.succ ((Ev.ge 3).mono fun n hn km H bs ev st he hF=> ?_)
 rw[qG (P:=P5) (sf:=c29) rfl (bR _ _) rfl rfl]
 have p:=a1y [.int .i64 6,.str t,qE ns,vXs l] st he hF
 have fe:=he.flat
 have hz:((0:Int) != 0)=false:=rfl
 have g1:=p.g1
 have g0:=p.g0
 simp -implicitDefEqProofs only[c29,↓qA,ZZ,seval,CL,XS,p.gm,p.n0,p.n1,p.m0,p.m1,hz,p.w,p.lt,Int.reduceBEq,fe]
 have k4:=p.kp.own p.low (by omega) (p.st.low.lt p.g1) (ob:= .row [.int .i64 6,.str [],.nilp,.nilp,.int .i64 6,.str t,qE ns,vXs l,ev,.nils] 0 false (some 88))
 refine kW (p.st.box p.g1 (by decide)) ?_ k4
 exact⟨ev,.nils,rfl,ht,p.env.stay (StayQ.put p.g1 (by decide) (by decide)),.inl ⟨rfl,.inl rfl⟩,Nat.zero_le _⟩
end Go.Lite
/-
  The reference's arguments: their cells, in order.
-/
namespace Go.Lite
open Go Go.Proofs
set_option maxHeartbeats 2000000 in
theorem a6s {P:R→Prop}{F km n k4:Nat}{bs:List Nat}{s:S}{t:Str}{ns:List Str}{f:X}{la:List X}{env:Env}{ev:AV}{KK:Ex→Fr→Heap→R}{fr:Fr}{H:Heap}(hla:la.length≤1000) (hn:la.length<n)
 (e53:∀ (i:Nat) (e:X),la[i]? = some e→∀ H bs ev,HLow H→EnvZ H bs env ev→a3J H bs e env ev (qB P5 n 57 [e.v,ev] H))
 (st:StZ F km H bs s 0) (he:EnvZ H bs env ev) (g4:H.t.get k4=some (.row [.int .i64 7,.str t,qE ns,vXs (f::la)] 0 false (some 28))) (r2:fr 2=ev) (r4:fr 4= .ptr (.new k4) 0) (r8:fr 8= .nils) (r9:fr 9= .int .i64 (1:Nat))
 (hend:∀ fr' H' x lv,StZ F km H' (bs++x) (xN env la s).2 0→LisZ H' (bs++x) (xN env la s).1 lv→KeepQ H H'→fr' 8=lv→fr' 0=fr 0→fr' 2=fr 2→fr' 4=fr 4→fr' 6=fr 6→fr' 7=fr 7→P (KK (.exit 1) fr' H')):P (zQ (qB P5 n) n rY n fr H KK):=by
 have low:=st.low
 refine zL la.length (fun i fr' H'=>∃ V x lv cs,Acc H.n H' 84 1 i cs lv∧PCs (bs++x) (xN env (la.take i) s).1 cs∧View V H'∧StZ F km V (bs++x) (xN env (la.take i) s).2 0∧Priv V lv∧KeepQ H V∧KeepQ H H'∧HLow H'∧fr' 8=lv∧fr' 9= .int .i64 (i+1:Nat)∧fr' 0=fr 0∧fr' 2=fr 2∧fr' 4=fr 4∧fr' 6=fr 6∧fr' 7=fr 7) ?_ ?_ n 0 fr H (Nat.zero_le _) hn
  ⟨H,[],.nils,[],Acc.nil,trivial,View.refl,by simpa[xN]using st,(fun j o ⟨_,_,_,e⟩=>by cases e),HKeep.refl,HKeep.refl,low,r8,r9,rfl,rfl,rfl,rfl,rfl⟩
 · rintro i fr' H' K' hi ⟨V,x,lv,cs,acc,hp,vw,st',pv,kV,kp,low',q8,q9,q0,q2,q4,q6,q7⟩ hKe hKr hK
   have hlt:((i+1:Nat):Int)<((la.length+1:Nat):Int):=by omega
   have hw:IntKind.i64.wrap (((i+1:Nat):Int)+1)=((i+1+1:Nat):Int):=qY (n:=1002) (by omega) (by omega)
   obtain⟨e,he'⟩:∃ e,la[i]? = some e:=⟨la[i],List.getElem?_eq_getElem hi⟩
   have heV:EnvZ V (bs++x) env ev:=he.keep kV.stayQ
   have heH:EnvZ H' (bs++x) env ev:=he.keep kp.stayQ
   obtain⟨cv,H5,z1,V5,y,z2,z3,vw5,kV5,kH5,br5⟩:=a2V (s:=(xN env (la.take i) s).2) (e53 i e he' H' (bs++x) ev low' heH) heV low' vw st'
   have htake:la.take (i+1)=la.take i++[e]:=by rw[List.take_add_one,he'];rfl
   have hii:xV 4 (vXs (f::la)) (i+1)=some (.ptr (.val e.cells) 0):=xR (by simpa using he')
   have hargs:=sV env e (la.take i) s
   rw[←htake]at hargs
   have g4':=kp.get _ _ g4 (qR (by decide) (by decide))
   have vwn:=vw.n
   obtain⟨ek,et,en,el⟩:=e
   rw[X.v_mk]at z1
   have fe:=he.flat
   have acc5:=acc.kept kH5 fun j _ hj=>qR (by decide) (by decide)
   have low5:=kH5.low low'
   have fcv:cv.flat=true:=by obtain⟨_,_,rfl⟩:=z3;rfl
   have kcv:vD cv=none:=by obtain⟨_,_,rfl⟩:=z3;rfl
   have pv5:Priv V5 lv:=fun j o hb=>by
    have hj:j<H'.n:=by
     obtain⟨o',n',c',e⟩:=hb
     exact(acc.below low' e).2
    exact br5 j (by omega) (pv j o hb)
   obtain⟨H7,V7,happ,acc7,kH7,low7,vw7,st7,pv7,kV7⟩:=a6t acc5 (kp.trans kH5) low low5 vw5 z2 pv5 fcv (by omega)
   simp -implicitDefEqProofs only[rY,↓qA,ZZ,seval,CL,XS,q8,q9,q2,r2,q4,r4,g4',hlt,hii,X.cells_mk,fe,z1,fcv,kcv,zP,happ,hw,acc5.flat]
   refine hK _ _ ⟨V7,x++y,.slice (.new (H5.n+1)) 0 (i+1) (.gro 1),cs++[cv],acc7,?_,vw7,?_,pv7,(kV.trans kV5).trans kV7,kH7,low7,?_,?_,?_,?_,?_,?_,?_⟩
   · rw[hargs,←List.append_assoc]
     exact hp.more.append ⟨z3,trivial⟩
   · rw[hargs,←List.append_assoc];exact st7
   all_goals simp -implicitDefEqProofs only[↓qA,ZZ,Nat.reduceBEq,reduceIte,Nat.reduceAdd,Nat.reduceLeDiff,Nat.reduceEqDiff,Nat.reduceBneDiff,q0,q2,q4,q6,q7,r2,r4]
 · rintro fr' H' K' ⟨V,x,lv,cs,acc,hp,vw,st',pv,kV,kp,low',q8,q9,q0,q2,q4,q6,q7⟩ hKe hKr
   have hlt:¬((la.length+1:Nat):Int)<((la.length+1:Nat):Int):=by omega
   have g4':=kp.get _ _ g4 (qR (by decide) (by decide))
   rw[List.take_length]at hp st'
   simp -implicitDefEqProofs only[rY,↓qA,ZZ,seval,CL,XS,q8,q9,q4,r4,g4',hlt,hKe]
   refine hend _ _ x lv (st'.view vw low') (LisZ.acc (N:=H.n) (cells:=cs) (by rw[a03];exact acc) hp) kp ?_ ?_ ?_ ?_ ?_ ?_<;>simp -implicitDefEqProofs only[↓qA,ZZ,seval,q8,q9,q0,q2,q4,q6,q7,r4]
theorem a9w {H:Heap}{bs:List Nat}{e:X}{env:Env}{ev:AV}{r:R}(h:a3J H bs e env ev r) (low:HLow H):∃ b H',r=some (.ret (.ptr (.new b) 0),H')∧vO H H'∧HLow H':=by
 obtain⟨row,⟨i,c,h1,⟨b,_,rfl⟩,rfl⟩|⟨cc,cs,h1,h2,rfl⟩⟩:=h
 · exact⟨b,_,rfl,HKeep.push low,low.push⟩
 · exact⟨_,_,rfl,(HKeep.push low).pushed low,low.push.push⟩
set_option maxHeartbeats 2000000 in
theorem a6h {P:R→Prop}{n k4:Nat}{bs:List Nat}{t:Str}{ns:List Str}{f:X}{la:List X}{env:Env}{ev:AV}{KK:Ex→Fr→Heap→R}{fr:Fr}{H:Heap}(hla:la.length≤1000) (hn:la.length<n)
 (e53:∀ (i:Nat) (e:X),la[i]? = some e→∀ H bs ev,HLow H→EnvZ H bs env ev→a3J H bs e env ev (qB P5 n 57 [e.v,ev] H))
 (low:HLow H) (he:EnvZ H bs env ev) (g4:H.t.get k4=some (.row [.int .i64 7,.str t,qE ns,vXs (f::la)] 0 false (some 28))) (r2:fr 2=ev) (r4:fr 4= .ptr (.new k4) 0) (r8:fr 8= .nils) (r9:fr 9= .int .i64 (1:Nat))
 (hend:∀ fr' H' lv,HLow H'→vO H H'→lenM lv=some (.int .i64 (la.length:Nat))→lv.flat=true→fr' 8=lv→fr' 0=fr 0→fr' 2=fr 2→fr' 4=fr 4→fr' 6=fr 6→fr' 7=fr 7→P (KK (.exit 1) fr' H')):P (zQ (qB P5 n) n rY n fr H KK):=by
 refine zL la.length (fun i fr' H'=>∃ lv cs,Acc H.n H' 84 1 i cs lv∧vO H H'∧HLow H'∧fr' 8=lv∧fr' 9= .int .i64 (i+1:Nat)∧fr' 0=fr 0∧fr' 2=fr 2∧fr' 4=fr 4∧fr' 6=fr 6∧fr' 7=fr 7) ?_ ?_ n 0 fr H (Nat.zero_le _) hn
  ⟨.nils,[],Acc.nil,HKeep.refl,low,r8,r9,rfl,rfl,rfl,rfl,rfl⟩
 · rintro i fr' H' K' hi ⟨lv,cs,acc,same,low',q8,q9,q0,q2,q4,q6,q7⟩ hKe hKr hK
   have hlt:((i+1:Nat):Int)<((la.length+1:Nat):Int):=by omega
   have hw:IntKind.i64.wrap (((i+1:Nat):Int)+1)=((i+1+1:Nat):Int):=qY (n:=1002) (by omega) (by omega)
   obtain⟨e,he'⟩:∃ e,la[i]? = some e:=⟨la[i],List.getElem?_eq_getElem hi⟩
   have heH:EnvZ H' bs env ev:=he.stay same.keepQ.stayQ
   obtain⟨b,H5,z1,same5,low5⟩:=a9w (e53 i e he' H' bs ev low' heH) low'
   have hii:xV 4 (vXs (f::la)) (i+1)=some (.ptr (.val e.cells) 0):=xR (by simpa using he')
   have g4':=same.get _ _ g4 fun h=>h
   obtain⟨ek,et,en,el⟩:=e
   rw[X.v_mk]at z1
   have acc5:=acc.kept same5 fun j _ hj h=>h
   have acc6:=acc5.push low5 (ob:= .row [.ptr (.new b) 0] 0 false none)
   have sameA:vO H (H5.push (.row [.ptr (.new b) 0] 0 false none)):=(same.trans same5).pushed low
   obtain⟨H7,happ,acc7,kb7,low7,hn7⟩:=acc6.one_more (e:=84) (bs:=8) (ys:=[.ptr (.new b) 0]) (by have:=sameA.n;exact this) low5.push (by decide) rfl rfl (by omega)
   have same7:vO H H7:=acc6.keeps sameA low kb7
   have kcv:vD (.ptr (.new b) 0)=none:=rfl
   simp only[h_n]at happ acc7
   simp -implicitDefEqProofs only[rY,↓qA,ZZ,seval,CL,XS,q8,q9,q2,r2,q4,r4,g4',hlt,hii,X.cells_mk,z1,kcv,zP,happ,hw,acc5.flat]
   refine hK _ _ ⟨.slice (.new (H5.n+1)) 0 (i+1) (.gro 1),cs++[.ptr (.new b) 0],acc7,same7,low7,?_,?_,?_,?_,?_,?_,?_⟩
   all_goals simp -implicitDefEqProofs only[↓qA,ZZ,Nat.reduceBEq,reduceIte,Nat.reduceAdd,Nat.reduceLeDiff,Nat.reduceEqDiff,Nat.reduceBneDiff,q0,q2,q4,q6,q7,r2,r4]
 · rintro fr' H' K' ⟨lv,cs,acc,same,low',q8,q9,q0,q2,q4,q6,q7⟩ hKe hKr
   have hlt:¬((la.length+1:Nat):Int)<((la.length+1:Nat):Int):=by omega
   have g4':=same.get _ _ g4 fun h=>h
   simp -implicitDefEqProofs only[rY,↓qA,ZZ,seval,CL,XS,q8,q9,q4,r4,g4',hlt,hKe]
   refine hend _ _ lv low' same acc.len acc.flat ?_ ?_ ?_ ?_ ?_ ?_<;>simp -implicitDefEqProofs only[↓qA,ZZ,seval,q8,q9,q0,q2,q4,q6,q7,r4]
end Go.Lite
/-
  The reference's eval: each kind of term.
-/
namespace Go.Lite
open Go Go.Proofs
theorem a9Y {F km d:Nat}{H:Heap}{bs:List Nat}{env:Env}{t:Str}{s:S}{r:R}(h:aBt H bs env t r) (st:StZ F km H bs s d):∃ cv H' x,r=some (.ret cv,H')∧StZ F km H' (bs++x) (kI env t s).2 d∧PC (bs++x) (kI env t s).1 cv∧KeepQ H H':=by
 rcases h with⟨p,c,h1,h2,rfl⟩|⟨h1,rfl⟩
 · refine⟨c,H,[],rfl,?_,?_,HKeep.refl⟩<;>simp only[kI,h1,List.append_nil]
   · exact st
   · exact h2
 · refine⟨_,_,[H.n],rfl,?_,?_,HKeep.push st.low⟩<;>simp only[kI,h1]
   · exact st.new a0k
   · rw[show(S.new s (.done (.atom 3 zD))).1=bs.length from st.len.symm]
     exact PC.new
set_option maxHeartbeats 2000000 in
theorem evQ5 {F m:Nat}(ih:bJ F m) (t:Str) (ns:List Str) (l:List X) (env:Env) (s:S) (o:O V) (ht:Room (.mk 5 t ns l) env) (h:qP F m (kI env t s.tick).1 (kI env t s.tick).2=some o):Ev (a0N F 5 t ns l env s o):=by
 refine Ev.succ (((a98 env t ht.le).and ((ih _ _ _ h).and (Ev.ge 3))).mono fun n hn km H bs ev st he hF=> ?_)
 obtain⟨e52,e51,hn⟩:=hn
 rw[qG (P:=P5) (sf:=c29) rfl (bR _ _) rfl rfl]
 have p:=a1y [.int .i64 5,.str t,qE ns,vXs l] st he hF
 have hz:((0:Int) != 0)=false:=rfl
 obtain⟨cv,H4,x,q1,q2,q3,q4⟩:=a9Y (e52 _ bs ev p.env) p.st
 have hg:=(e51 km H4 (bs++x) cv q2 q3).more
 have g1:=q4.get _ _ p.g1 (qR (by decide) (by decide))
 simp -implicitDefEqProofs only[c29,↓qA,ZZ,seval,CL,XS,p.gm,p.n0,p.n1,p.m0,p.m1,hz,p.w,p.lt,Int.reduceBEq,q1]
 refine xH (k:=H.n+1) hg (p.kp.trans q4) st.low (by omega) g1 rfl rfl (by decide) ?_
 intro fr' H' cs hb hk hl
 simp -implicitDefEqProofs only[↓qA,ZZ,seval,hb,hk,hl,List.take_of_length_le (Nat.le_of_eq hl)]
set_option maxHeartbeats 2000000 in
theorem evQc {F:Nat}(k:Int) (t:Str) (ns:List Str) (l:List X) (env:Env) (s:S) (hk:¬k=5∧¬k=6∧¬k=7∧¬k=8∧¬k=9∧¬k=10) (hn:bW k t):Ev (a0N F k t ns l env s (.val (xK k t) s.tick)):=by
 obtain⟨h5,h6,h7,h8,h9,h10⟩:=hk
 refine Ev.succ ((const57.and (Ev.ge 3)).mono fun n hn' km H bs ev st he hF=> ?_)
 obtain⟨e57,_⟩:=hn'
 rw[qG (P:=P5) (sf:=c29) rfl (bR _ _) rfl rfl]
 have p:=a1y [.int .i64 k,.str t,qE ns,vXs l] st he hF
 have hz:((0:Int) != 0)=false:=rfl
 have b5:(k==5)=false:=by simpa using h5
 have b6:(k==6)=false:=by simpa using h6
 have b7:(k==7)=false:=by simpa using h7
 have b8:(k==8)=false:=by simpa using h8
 have b9:(k==9)=false:=by simpa using h9
 have b10:(k==10)=false:=by simpa using h10
 have e57':=fun H=>e57 k t ns l H
 unfold yR at e57'
 simp only[E0]at e57'
 have k4:=p.kp.own p.low (by omega) (p.st.low.lt p.g1) (ob:= .row (yR k t) 0 false (some 88))
 have fin:GiveQ F km H bs (some (.ret (.agg (yR k t)),(a2J F km H s [.int .i64 k,.str t,qE ns,vXs l]).put (H.n+1) (.row (yR k t) 0 false (some 88)))) (.val (xK k t) s.tick):=kW (p.st.box p.g1 (by decide)) (a1j hn) k4
 simp only[yR,E0]at fin
 simp -implicitDefEqProofs only[c29,↓qA,ZZ,seval,CL,XS,p.gm,p.n0,p.n1,p.m0,p.m1,hz,p.w,p.lt,b5,b6,b7,b8,b9,b10,e57']
 exact fin
set_option maxHeartbeats 2000000 in
theorem evQ9 {F m:Nat}(ih:EvalQ F m) (t:Str) (ns:List Str) (l:List X) (b:X) (env:Env) (s:S) (o:O V) (hr:Room (.mk 9 t ns l) env) (hb:l[ns.length]? = some b) (h:evalA F m b (x9 ns s.cells.length env) (s.tick.more ((l.take ns.length).map fun e=>C.wait e (x9 ns s.cells.length env)))=some o):Ev (a0N F 9 t ns l env s o):=by
 refine Ev.succ (((aFk ih 9 t ns l b env s.tick o hr hb h).and (Ev.ge 3)).mono fun n hn km H bs ev st he hF=> ?_)
 obtain⟨e55,hn⟩:=hn
 rw[qG (P:=P5) (sf:=c29) rfl (bR _ _) rfl rfl]
 have p:=a1y [.int .i64 9,.str t,qE ns,vXs l] st he hF
 have hz:((0:Int) != 0)=false:=rfl
 have hg:=e55 km _ bs ev p.st p.env
 rw[X.v_mk]at hg
 simp -implicitDefEqProofs only[c29,↓qA,ZZ,seval,CL,XS,p.gm,p.n0,p.n1,p.m0,p.m1,hz,p.w,p.lt,Int.reduceBEq]
 refine xH (k:=H.n+1) hg p.kp st.low (by omega) p.g1 rfl rfl (by decide) ?_
 intro fr' H' cs hb hk hl
 simp -implicitDefEqProofs only[↓qA,ZZ,seval,hb,hk,hl,List.take_of_length_le (Nat.le_of_eq hl)]
set_option maxHeartbeats 2000000 in
theorem aD4 {F:Nat}(t:Str) (ns:List Str) (l:List X) (env:Env) (s:S) (o:O V) (h:Ev fun n=>∀ km H bs ev,StZ F km H bs s.tick 0→EnvZ H bs env ev→GiveQ F km H bs (qB P5 n 60 [.ptr (.new km) 0,(X.mk 10 t ns l).v,ev] H) o):Ev (a0N F 10 t ns l env s o):=by
 refine Ev.succ ((h.and (Ev.ge 3)).mono fun n hn km H bs ev st he hF=> ?_)
 obtain⟨e56,hn⟩:=hn
 rw[qG (P:=P5) (sf:=c29) rfl (bR _ _) rfl rfl]
 have p:=a1y [.int .i64 10,.str t,qE ns,vXs l] st he hF
 have hz:((0:Int) != 0)=false:=rfl
 have hg:=e56 km _ bs ev p.st p.env
 rw[X.v_mk]at hg
 simp -implicitDefEqProofs only[c29,↓qA,ZZ,seval,CL,XS,p.gm,p.n0,p.n1,p.m0,p.m1,hz,p.w,p.lt,Int.reduceBEq]
 refine xH (k:=H.n+1) hg p.kp st.low (by omega) p.g1 rfl rfl (by decide) ?_
 intro fr' H' cs hb hk hl
 simp -implicitDefEqProofs only[↓qA,ZZ,seval,hb,hk,hl,List.take_of_length_le (Nat.le_of_eq hl)]
end Go.Lite
