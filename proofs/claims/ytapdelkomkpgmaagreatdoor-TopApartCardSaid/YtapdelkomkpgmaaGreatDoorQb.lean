import Derived.OwnWalkIn
import Derived.Maps.AppendAt
import Derived.Test.YtapdelkomkpgmaaGreatDoorQa
namespace Go.Proofs.YtapdelkomkpgmaaGreatDoor
open Go.RowKit
set_option maxRecDepth 100000
set_option linter.all false
def NG(b o j:Nat):(⟨b,o,none⟩:Addr).add j=⟨b,o+j,none⟩:=by
 unfold Addr.add;simp
def nV{P:Aj}{t:AQ}{u:TypeDesc}(h:P.underlying t=some u)(w:AA):(isAgg t).run P w= .ok (ZR u) w:=by
 cases u<;>simp[isAgg,run_underlying h,ZR]
def Np{P:Aj}{t:AQ}{i:TypeInfo}(h:P.info? t=some i)(w:AA):(sizeOf t).run P w= .ok i.size w:=by simp[sizeOf,typeInfo,h]
section
variable {P : Aj} {w : AA}
def Jgz{t:AQ}{cs:Ac D}{d:D}{b o:Nat}{S:Nat->Prop}{L:Ac (Nat×Nat)}(h:Uy P t cs 0=some d)(k:Eg S L w b o cs):∃x,(Instr.loadAt t (.pointer (some ⟨b,o,none⟩))).run P w= .ok x w/\Rep S L w x d:=by
 unfold Uy L9 at h;cases a:P.underlying t with
 |none=>simp[a]at h
 |some u=>
  cases g:P.info? t with
  |none=>simp[a,g]at h
  |some i=>
   simp only[a,g,BR]at h;cases e:ZR u with
   |true=>
    simp only[e,Bv,MW,EE,UB]at h;split at h
    ·cases h
     obtain⟨xs,c,f⟩:=(k.take i.size).values;have m:xs.length=i.size:=by rw[c.length,eG];omega
     refine⟨.agg xs.toArray,?_,?_⟩
     ·have:=run_loadCells_list (P:=P) w ⟨b,o,none⟩ xs (fun j v l=>by rw[NG];exact f j v l);rw[m]at this;simp[Instr.loadAt,Instr.sureAddr,loadVar,nV a,e,Np g,this]
     ·simp only[Rep];exact⟨xs,rfl,c⟩
    ·cases h
   |false=>
    simp only[e,BF,BC,MW]at h;obtain⟨x,c,f⟩:=k.get 0 d h;refine⟨x,?_,f⟩;rw[MZ]at c;simp[Instr.loadAt,Instr.sureAddr,loadVar,nV a,e,Go.run_load,c]
def JgA{t:AQ}{cs:Ac D}{xs:Ac Ap}{d:D}{off:Nat}{S:Nat->Prop}{L:Ac (Nat×Nat)}(h:Uy P t cs off=some d)(e:Au S L w xs cs):∃x,(part t xs.toArray off).run P w= .ok x w/\Rep S L w x d:=by
 unfold Uy L9 at h;cases a:P.underlying t with
 |none=>simp[a]at h
 |some u=>
  cases c:P.info? t with
  |none=>simp[a,c]at h
  |some i=>
   simp only[a,c,BR]at h;cases b:ZR u with
   |true=>
    simp only[b,Bv,MW]at h;split at h
    ·cases h
     refine⟨.agg (xs.toArray.extract off (off+i.size)),?_,?_⟩
     ·simp[part,nV a,b,Np c]
     ·simp only[Rep];refine⟨(xs.drop off).take i.size,?_,(e.drop off).take i.size⟩;simp
    ·cases h
   |false=>
    simp only[b,BF,BC,MW]at h;obtain⟨x,g,f⟩:=e.get off d h;refine⟨x,?_,f⟩;simp[part,nV a,b,g]
def Pa{d:D}{cs:Ac D}{x:Ap}{S:Nat->Prop}{L:Ac (Nat×Nat)}(h:D7 d=some cs)(g:Rep S L w x d):∃xs:Ac Ap,x.cells=xs.toArray/\Au S L w xs cs:=by
 cases d with
 |undef=>simp[D7]at h
 |tup=>simp[D7]at h
 |agg ds=>
  simp only[D7,CE]at h;subst h;simp only[Rep]at g;obtain⟨xs,rfl,m⟩:=g;exact⟨xs,rfl,m⟩
 |sl sz els=>
  simp only[D7,CE]at h;subst h;refine⟨[x],?_,Au.cons g Au.nil⟩;simp only[Rep]at g;rcases g with⟨_,p,cap,rfl,_⟩|⟨b,o,cap,rfl,_⟩<;>rfl
 |ptr ds=>
  simp only[D7,CE]at h;subst h;refine⟨[x],?_,Au.cons g Au.nil⟩;simp only[Rep]at g;obtain⟨b,o,rfl,_⟩:=g;rfl
 |hp i o=>
  simp only[D7,CE]at h;subst h;refine⟨[x],?_,Au.cons g Au.nil⟩;simp only[Rep]at g;obtain⟨b,c,_,rfl⟩:=g;rfl
 |hs i n=>
  simp only[D7,CE]at h;subst h;refine⟨[x],?_,Au.cons g Au.nil⟩;simp only[Rep]at g;obtain⟨b,c,_,_,rfl⟩:=g;rfl
 |ht i o n=>
  simp only[D7,CE]at h;subst h;refine⟨[x],?_,Au.cons g Au.nil⟩;simp only[Rep]at g;obtain⟨b,c,s,cap,_,rfl,_⟩:=g;rfl
 |yld i=>
  simp only[D7,CE]at h;subst h;refine⟨[x],?_,Au.cons g Au.nil⟩;simp only[Rep]at g;obtain⟨b,c,_,rfl⟩:=g;rfl
 |ifc t e=>
  simp only[D7,CE]at h;subst h;refine⟨[x],?_,Au.cons g Au.nil⟩;simp only[Rep]at g;obtain⟨y,rfl,_⟩:=g;rfl
 |mp i=>
  simp only[D7,CE]at h;subst h;refine⟨[x],?_,Au.cons g Au.nil⟩;simp only[Rep]at g;obtain⟨b,c,_,rfl⟩:=g;rfl
 |mv q vs=>
  simp only[D7,CE]at h;subst h;refine⟨[x],?_,Au.cons g Au.nil⟩;simp only[Rep]at g;obtain⟨b,arr,j,rfl,_⟩:=g;rfl
 |clo f a b=>
  simp only[D7,CE]at h;subst h;refine⟨[x],?_,Au.cons g Au.nil⟩;simp only[Rep]at g;obtain⟨y,z,rfl,_⟩:=g;rfl
 |v y=>
  simp only[Rep]at g;subst g;cases x with
  |agg xs=>
   simp only[D7,CE]at h;subst h;refine⟨xs.toList,by simp[Value.cells],?_⟩;generalize xs.toList=l
   induction l with
   |nil=>exact Au.nil
   |cons a r k=>exact Au.cons (by simp only[Rep]) k
  |tuple=>simp[D7]at h
  |_=>
   simp only[D7,CE]at h;subst h;exact⟨[_],rfl,Au.cons (by simp only[Rep]) Au.nil⟩
theorem Ek{S:Nat->Prop}{L:Ac (Nat×Nat)}(a:Nat->Af (Nat×Nat)):∀(b:Ac (Nat×D)) (vals:Ac (Nat×Ap)) (cs:Ac D) (xs:Ac Ap) (out:Ac D),Au S L w xs cs->
  (∀(k:Nat),(b[k]?).map (·.1)=(vals[k]?).map (·.1)/\∀(p:Nat×D) (v:Nat×Ap),b[k]? =some p->vals[k]? =some v->Rep S L w v.2 p.2)->
  O0 a cs b=some out->∃c:Ac Ap,Instr.fill a xs.toArray vals=some c.toArray/\Au S L w c out
 |[],vals,cs,xs,out,h,hp,f=>by
  have:vals=[]:=by
   cases vals with
   |nil=>rfl
   |cons v r=>have:=(hp 0).1;simp at this
  subst this;simp only[O0,CE]at f;subst f;exact⟨xs,rfl,h⟩
 |(i,d)::u,vals,cs,xs,out,h,hp,f=>by
  cases vals with
  |nil=>have:=(hp 0).1;simp at this
  |cons v r=>
   obtain⟨O,x⟩:=v;have F:=(hp 0).1;simp only[zO,Dt,CE]at F;subst F;have E:=(hp 0).2 (i,d) (i,x) rfl rfl;simp only at E;simp only[O0]at f;cases g:a i with
   |none=>simp[g]at f
   |some os=>
    obtain⟨off,size⟩:=os;cases o:D7 d with
    |none=>simp[g,o]at f
    |some ds=>
     simp only[g,o]at f;split at f
     ·cases f
     ·rename_i M;obtain⟨zs,P,q⟩:=Pa o E;have K:=q.length;have j:∀(l:Ac Ap) (m:Ac D) (k:Nat) (c:Ac Ap) (s:Ac D),Au S L w l m->Au S L w c s->
        ∃z:Ac Ap,(l.zipIdx k).foldl (fun n (p:Ap×Nat)=>n.setIfInBounds (off+p.2) p.1) c.toArray=z.toArray/\Au S L w z ((m.zipIdx k).foldl (fun n (p:D×Nat)=>n.set (off+p.2) p.1) s):=by
       intro l m
       induction m generalizing l with
       |nil=>intro k c s A G;simp only[Au]at A;simp_all
       |cons e t N=>
        intro k c s A G;simp only[Au]at A;obtain⟨y,J,rfl,H,C⟩:=A;simp only[List.zipIdx_cons,LT];have:=N J (k+1) (c.set (off+k) y) (s.set (off+k) e) C (G.set (off+k) H);simpa using this
      obtain⟨z,Q,B⟩:=j zs ds 0 xs cs q h;have I:=h.length;obtain⟨c,H,C⟩:=Ek a u r _ z out B (fun k=>by simpa using hp (k+1)) f;refine⟨c,?_,C⟩;unfold Instr.fill
      grind
def cH{sz:Nat}{x:D}{v:Ap}{els:Ac (Ac D)}{S:Nat->Prop}{L:Ac (Nat×Nat)}(h:IU sz x=some els)(a:Rep S L w v x):
  (els=[]/\∃(p:Af Addr) (cap:Nat),v= .slice p 0 cap/\(p=none->cap=0))\/
   ∃(b o cap:Nat),v= .slice (some ⟨b,o,none⟩) els.length cap/\0<els.length/\els.length<=cap/\S b/\EM S [] w b o sz els:=by
 cases x with
 |sl s c=>
  simp only[IU]at h;split at h
  ·rename_i hs;cases h;simp only[Rep]at a
   grind
  ·cases h
 |v y=>
  simp only[Rep]at a;subst a;unfold IU at h
  grind
 |_=>simp[IU]at h
def aX{d:D}{n:Nat}{v:Ap}{S:Nat->Prop}{L:Ac (Nat×Nat)}(h:IC d=some n)(a:Rep S L w v d):∃k,v= .int k n:=by
 unfold IC at h;split at h
 ·rename_i k m;simp only[Rep]at a
  grind
 ·cases h
def JcD{d:D}{b:Bool}{v:Ap}{S:Nat->Prop}{L:Ac (Nat×Nat)}(h:YG d=some b)(a:Rep S L w v d):v= .bool b:=by
 unfold YG at h;split at h
 ·simp only[Rep]at a;cases h;exact a
 ·cases h
def bH{t:AQ}{sz:Nat}(h:PX P t=some sz):∃e i,P.underlying t=some (.slice e)/\P.info? e=some i/\i.size=sz:=by
 unfold PX at h;split at h
 ·simp_all
 ·cases h
def Qdm{t:AQ}{sz:Nat}{x i d:D}{v u:Ap}{S:Nat->Prop}{L:Ac (Nat×Nat)}(ht:PX P t=some sz)(h:Si sz x i=some d)(m:Rep S L w v x)(z:Rep S L w u i):
  ∃r,(Instr.indexAt t v u).run P w= .ok r w/\Rep S L w r d:=by
 obtain⟨e,B,p,A,q⟩:=bH ht;unfold Si at h;cases f:IU sz x with
 |none=>simp[f]at h
 |some els=>
  cases j:IC i with
  |none=>simp[f,j]at h
  |some n=>
   simp only[f,j]at h;cases g:els[n]? with
   |none=>simp[g]at h
   |some c=>
    simp only[g,Dt,CE]at h;subst h;obtain⟨k,rfl⟩:=aX j z;have a:n<els.length:=(CV.1 g).1;rcases cH f m with⟨rfl,_⟩|⟨b,o,cap,rfl,hp,E,F,s⟩
    ·simp at a
    ·obtain⟨C,y⟩:=s.get n c g;refine⟨.pointer (some ⟨b,o+n*sz,none⟩),?_,?_⟩
     ·have l:(0:Int)<=(n:Int)/\(n:Int)<(els.length:Int):=by omega
      simp[Instr.indexAt,asIntOf,run_underlying p,a,Np A,q,NG]
     ·simp only[Rep]
      grind
def TY(S:Nat->Prop)(L:Ac (Nat×Nat))(w:AA)(u:Af Ap)(o:Af D):Prop:=(o=none/\u=none)\/∃d v,o=some d/\u=some v/\Rep S L w v d
def bP{fl:Bool}{f o:Af D}{l h n cap:Nat}{r s:Af Ap}{S:Nat->Prop}{L:Ac (Nat×Nat)}(a:Nu f=some l)(b:KX n o=some h)(p:l<=h)(e:h<=cap)
  (A:TY S L w r f) (c:TY S L w s o):(Instr.sliceBounds fl n cap r s none).run P w= .ok (l,h,cap) w:=by
 have key:∀(d:D) (v:Ap) (m y:Nat) (code:BoundsCode),IC d=some m->Rep S L w v d->m<=y->(Instr.sliceBound v y code).run P w= .ok m w:=by
  intro d v m y code B x z;obtain⟨k,rfl⟩:=aX B x;simp[Instr.sliceBound,asIntOf,z]
 rcases A with⟨rfl,rfl⟩|⟨j,u,rfl,rfl,i⟩<;>rcases c with⟨rfl,rfl⟩|⟨t,q,rfl,rfl,g⟩<;>simp only[Nu,KX,CE]at a b
 ·subst a;subst b;rfl
 ·subst a;simp[Instr.sliceBounds,key t q h cap _ b g e]
 ·subst b;simp[Instr.sliceBounds,key j u l n _ a i p]
 ·simp[Instr.sliceBounds,key j u l h _ a i p,key t q h cap _ b g e]
def JnS{t:AQ}{sz:Nat}{x d:D}{v:Ap}{j m:Af D}{E F:Af Ap}{S:Nat->Prop}{L:Ac (Nat×Nat)}(ht:PX P t=some sz)(h:uM sz x j m=some d)(J:Rep S L w v x)
  (G:TY S L w E j) (f:TY S L w F m):∃r,(Instr.sliceAt t v E F none).run P w= .ok r w/\Rep S L w r d:=by
 obtain⟨e,N,B,H,C⟩:=bH ht;unfold uM at h;cases y:IU sz x with
 |none=>simp[y]at h
 |some els=>
  simp only[y]at h;cases c:Nu j with
  |none=>simp[c]at h
  |some l=>
   cases g:KX els.length m with
   |none=>simp[c,g]at h
   |some k=>
    simp only[c,g]at h;split at h
    ·rename_i M;cases h;obtain⟨a,s⟩:=M;rcases cH y J with⟨rfl,p,cap,rfl,hp⟩|⟨b,o,cap,rfl,hp,O,u,K⟩
     ·have z:k=0:=by simpa using s
      subst z;have q:l=0:=by omega
      subst q;have:=bP (P:=P) (w:=w) (fl:=true) (n:=0) (cap:=cap) c (by simpa using g) a (by omega) G f;refine⟨.slice (if cap=0 then p else p.map (·.add (0*sz))) 0 cap,?_,?_⟩
      ·simp[Instr.sliceAt,Instr.slice,run_underlying B,this,Np H,C]
      ·simp only[Rep];refine .inl ⟨by simp,_,_,rfl,fun A=> ?_⟩;split at A
       ·assumption
       simp_all
     ·have:=bP (P:=P) (w:=w) (fl:=true) (n:=els.length) (cap:=cap) c g a (by omega) G f;refine⟨.slice (if cap=l then some ⟨b,o,none⟩else some ⟨b,o+l*sz,none⟩) (k-l) (cap-l),?_,?_⟩
      ·simp[Instr.sliceAt,Instr.slice,run_underlying B,this,Np H,C,NG]
      ·simp only[Rep];have I:((els.take k).drop l).length=k-l:=by simp;omega
       by_cases i:k=l
       ·refine .inl ⟨pS (by omega),_,cap-l,by rw[i,oW],fun A=> ?_⟩
        grind
       ·refine .inr ⟨b,o+l*sz,cap-l,?_,by omega,by omega,u,(K.take k).drop l⟩
        grind
    ·cases h
def CL{t:AQ}{cs:Ac D}{S:Nat->Prop}{L:Ac (Nat×Nat)}(h:uJ P t=some cs):∃i z,P.info? t=some i/\i.zero=some z/\cs=z.cells.toList.map D.v/\Au S L w z.cells.toList cs:=by
 unfold uJ at h;cases c:P.info? t with
 |none=>simp[c]at h
 |some i=>
  cases b:i.zero with
  |none=>simp[c,b]at h
  |some z=>
   simp only[c,b,Dt,CE]at h;refine⟨i,z,rfl,b,h.symm,?_⟩;subst h;generalize z.cells.toList=l
   induction l with
   |nil=>exact Au.nil
   |cons a r d=>exact Au.cons (by simp only[Rep]) d
def To{ρv:Operand->Ap}{ρd:Operand->D}{S:Nat->Prop}{L:Ac (Nat×Nat)}(b:∀x,Rep S L w (ρv x) (ρd x))(a:Ac (Nat×Operand))(k:Nat):
 ((a.map fun(i,x)=>(i,ρd x))[k]?).map (·.1)=((a.map fun(i,x)=>(i,ρv x))[k]?).map (·.1)/\
  ∀(p:Nat×D) (v:Nat×Ap),(a.map fun(i,x)=>(i,ρd x))[k]? =some p->(a.map fun(i,x)=>(i,ρv x))[k]? =some v->Rep S L w v.2 p.2:=by grind
def Jtb{t:AQ}{d:D}{ρv:Operand->Ap}{ρd:Operand->D}{S:Nat->Prop}{L:Ac (Nat×Nat)}(p:∀x,Rep S L w (ρv x) (ρd x))(a:CX (Nat×Operand))(h:Kf P t (a.toList.map fun(i,x)=>(i,ρd x))=some d):
  ∃r,(Instr.build t (a.map fun(i,x)=>(i,ρv x))).run P w= .ok r w/\Rep S L w r d:=by
 unfold Kf at h;split at h
 ·rename_i fs z y g;split at h
  ·rename_i o q;obtain⟨i,j,u,A,v,n⟩:=CL (S:=S) (L:=L) (w:=w) g;unfold CY at h;cases b:O0 (o[·]?) z (a.toList.map fun(i,x)=>(i,ρd x))with
   |none=>simp[b]at h
   |some out=>
    simp only[b,Dt,CE]at h;subst h;obtain⟨c,B,l⟩:=Ek (o[·]?) _ (a.toList.map fun(i,x)=>(i,ρv x)) z j.cells.toList out n (To p a.toList) b;refine⟨.agg c.toArray,run_build w t _ _ ?_,?_⟩
    ·unfold Program.built;simp_all
    ·simp only[Rep];exact⟨c,rfl,l⟩
  ·cases h
 ·rename_i m e z y g;split at h
  ·rename_i f s;obtain⟨i,j,u,A,v,n⟩:=CL (S:=S) (L:=L) (w:=w) g;unfold XX at h;cases b:O0 (fun k=>some (k*f.size,f.size)) z (a.toList.map fun(i,x)=>(i,ρd x))with
   |none=>simp[b]at h
   |some out=>
    simp only[b,Dt,CE]at h;subst h;obtain⟨c,B,l⟩:=Ek (fun k=>some (k*f.size,f.size)) _ (a.toList.map fun(i,x)=>(i,ρv x)) z j.cells.toList out n (To p a.toList) b;refine⟨.agg c.toArray,run_build w t _ _ ?_,?_⟩
    ·unfold Program.built;simp_all
    ·simp only[Rep];exact⟨c,rfl,l⟩
  ·cases h
 ·cases h
def W8{α:Type}(sz n:Nat)(l:Ac α):(G9 sz n l).length=n:=by
 induction n generalizing l with
 |zero=>rfl
 |succ n a=>simp[G9,a]
def oR{α:Type}(sz n:Nat)(l:Ac α)(h:l.length=n*sz):∀e∈G9 sz n l,e.length=sz:=by
 induction n generalizing l with
 |zero=>simp[G9]
 |succ n b=>
  rw[zQ]at h;intro e a;simp only[G9,FY]at a
  grind
def G4{α:Type}(sz n:Nat)(l:Ac α)(h:l.length=n*sz):(G9 sz n l).flatten=l:=by
 induction n generalizing l with
 |zero=>simp at h;subst h;rfl
 |succ n a=>
  rw[zQ]at h;simp only[G9,IX];simp_all
def Au.map{S:Nat->Prop}{L:Ac (Nat×Nat)}(l:Ac Nat)(f:Nat->Ap)(g:Nat->D)(h:∀k∈l,Rep S L w (f k) (g k)):Au S L w (l.map f) (l.map g):=by
 induction l with
 |nil=>exact Au.nil
 |cons a r b=>exact Au.cons (h a (by simp)) (b fun k c=>h k (by simp[c]))
def JrN(zs:Ac (D×Nat))(off:Nat)(cs:Ac D):(zs.foldl (fun c (p:D×Nat)=>c.set (off+p.2) p.1) cs).length=cs.length:=by
 induction zs generalizing cs with
 |nil=>rfl
 |cons a b d=>grind
def Qce(b:Nat->Af (Nat×Nat))(a:Ac (Nat×D))(cs out:Ac D)(h:O0 b cs a=some out):out.length=cs.length:=by
 induction a generalizing cs with
 |nil=>simp only[O0,CE]at h;rw[h]
 |cons p r c=>
  obtain⟨k,d⟩:=p;simp only[O0]at h;split at h
  ·split at h
   ·cases h
   ·rw[c _ h];exact JrN _ _ _
  ·cases h
def Js9(w:AA)(t e:AQ)(len:Nat)(a:CX (Nat×Ap))(cells:CX Ap)(c:TypeInfo)(z:Ap)
  (j:P.underlying t=some (.slice e)) (f:P.info? e=some c) (g:c.zero=some z) (b:¬len*c.size>2^24) (d:¬len*c.size=0)
  (h:Instr.fill (fun i=>some (i*c.size,c.size)) ((Array.range (len*c.size)).map (z.cells[· %z.cells.size]!)) a.toList=some cells):
  (Instr.buildSlice t len a).run P w= .ok (.slice (some ⟨w.heap.size,0,none⟩) len len) (w.alloc (.cells cells e)):=by
 simp[Instr.buildSlice,run_underlying j,sizeOf,typeInfo,zeroValue,f,g,b,d,h,newRow]
def JdS{t:AQ}{e:AQ}{sz:Nat}{z:Ac D}{d:D}{els:Ac (Ac D)}{ρv:Operand->Ap}{ρd:Operand->D}{S:Nat->Prop}{L:Ac (Nat×Nat)}(O:∀x,Rep S L w (ρv x) (ρd x))(n:Nat)(l:CX (Nat×Operand))
  (f:Fl P t n=some (e,sz,z)) (h:tX sz n z (l.toList.map fun(i,x)=>(i,ρd x))=some d) (G:IU sz d=some els):
  ∃r:Ac Ap,(Instr.buildSlice t n (l.map fun(i,x)=>(i,ρv x))).run P w= .ok (.slice (some ⟨w.heap.size,0,none⟩) n n) (w.alloc (.cells r.toArray e))/\Au S L w r els.flatten/\els.flatten.length=n*sz/\n<=1000/\0<sz:=by
 unfold Fl at f;split at f
 ·rename_i W H;split at f
  ·rename_i V J N c;split at f
   ·cases f
   ·rename_i p;cases f;obtain⟨a,b,U,R,Q,T⟩:=CL (S:=S) (L:=L) (w:=w) N;obtain rfl:a=J:=by grind
    have v:¬a.size=0:=fun e=>p (.inl e);have E:z.length=a.size:=by omega
    have u:n*a.size<=1000:=by omega
    have A:b.cells.size=a.size:=by grind
    have y:n<=1000:=Ig (Jks n (by omega)) u;unfold tX at h;split at h
    ·rename_i C;subst C;split at h
     ·rename_i F;cases h;have:l= #[]:=by simpa using F
      subst this;have:els=[]:=by simpa[IU]using G.symm
      subst this;exact⟨[],by simp[Instr.buildSlice,run_underlying H,Np c,newRow,Instr.fill];grind,Au.nil,by simp,by omega,by omega⟩
     ·cases h
    ·rename_i C;have o:¬n*a.size=0:=by
      intro m;rcases Nat.mul_eq_zero.1 m with m|m
      ·exact C m
      ·exact v m
     cases s:O0 (fun k=>some (k*a.size,a.size)) ((List.range (n*a.size)).map fun k=>z.getD (k%z.length) .undef) (l.toList.map fun(i,x)=>(i,ρd x))with
     |none=>rw[s]at h;cases h
     |some out=>
      rw[s]at h;simp only[Dt,CE]at h;subst h;have j:Au S L w ((List.range (n*a.size)).map (b.cells[· %b.cells.size]!)) ((List.range (n*a.size)).map fun k=>z.getD (k%z.length) .undef):=by
       refine Au.map _ _ _ fun k _=> ?_;have M:k%z.length<z.length:=SS _ (by omega);have B:k%z.length<b.cells.size:=by omega
       rw[A,<-E,Ed,FQ M];subst Q;simp only[zS,pT,Array.getElem_toList,Rep];exact getElem!_pos b.cells _ B
      obtain⟨r,K,I⟩:=Ek (w:=w) _ _ (l.toList.map fun(i,x)=>(i,ρv x)) _ _ out j (To O l.toList) s;have g:out.length=n*a.size:=by rw[Qce _ _ _ _ s];simp
      have q:els=G9 a.size n out:=by simpa[IU]using G.symm
      subst q;rw[G4 _ _ _ g];refine⟨r,Js9 w t e n _ _ a b H c R (by omega) o ?_,I,g,y,by omega⟩;rw[show((Array.range (n*a.size)).map (b.cells[· %b.cells.size]!))=((List.range (n*a.size)).map (b.cells[· %b.cells.size]!)).toArray from by rw[show Array.range (n*a.size)=(List.range (n*a.size)).toArray from by simp,List.map_toArray]];simpa using K
  ·cases f
 ·cases f
def Jj0{S:Nat->Prop}{L:Ac (Nat×Nat)}{ds:Ac D}{a:Ac Int}{xs:Ac Ap}(h:Sl ds=some a)(c:Au S L w xs ds):xs=a.map (Value.int .i64):=by
 induction ds generalizing a xs with
 |nil=>simp only[Sl,CE]at h;subst h;simp only[Au]at c;rw[c];rfl
 |cons d r j=>
  simp only[Au]at c;obtain⟨x,l,rfl,f,i⟩:=c;unfold Sl at h;split at h
  ·grind
  ·rename_i n k g;cases g;cases e:Sl r with
   |none=>simp[e]at h
   |some b=>
    simp only[e,Dt,CE]at h;subst h;simp only[Rep]at f;rw[f,j e i];rfl
  ·cases h
def Qd3(a b:Ac Int)(fs:Ac Field)(k:Nat)(j:a.length=k+fs.length)(m:b.length=k+fs.length)
  (h:∀p∈fs.zipIdx k,p.1.name≠ "_" ∧p.1.offset=p.2∧P.underlying p.1.type=some (.int .i64)) (w:AA):
  (Op.eqFields 9999 (a.map (Value.int .i64)).toArray (b.map (Value.int .i64)).toArray fs).run P w= .ok (decide (a.drop k=b.drop k)) w:=by
 induction fs generalizing k with
 |nil=>
  simp only[Hf,MZ]at j m;simp[Op.eqFields,LR (Nat.le_of_eq j),LR (Nat.le_of_eq m)]
 |cons f r q=>
  obtain⟨n,l,e⟩:=h (f,k) (by simp);simp only at n l e;simp only[Ej]at j m;have c:k<a.length:=by omega
  have d:k<b.length:=by omega
  have s:(part f.type (a.map (Value.int .i64)).toArray f.offset).run P w= .ok (.int .i64 a[k]) w:=by simp[part,nV e,ZR,l,c]
  have o:(part f.type (b.map (Value.int .i64)).toArray f.offset).run P w= .ok (.int .i64 b[k]) w:=by simp[part,nV e,ZR,l,d]
  have i:=q (k+1) (by omega) (by omega) (fun p hp=>h p (by simp[hp]));simp only[Op.eqFields,Aw n,Sem.run_bind,s,o,Result.andThen_ok,run_equalIn_int w 9998 f.type .i64 .i64 _ _ e];rw[QW c,QW d];by_cases g:a[k]=b[k]
  ·rw[show(a[k]==b[k])=true from by simp[g]];simp only[MX,BF,BC,i,g,Q3,pU]
  ·rw[show(a[k]==b[k])=false from by simp[g]];simp only[zT,Bv,Sem.run_pure,Q3,g,false_and,decide_false]
def Jcu{t:AQ}(h:Jt P t= .bool):P.underlying t=some .bool:=by
 unfold Jt at h
 grind
def kK{t:AQ}(h:Jt P t= .sl):∃e,P.underlying t=some (.slice e):=by
 unfold Jt at h
 grind
def Jmx{t:AQ}(h:Jt P t= .str):P.underlying t=some .string:=by
 unfold Jt at h
 grind
def Jxo{t:AQ}{n:Nat}(h:Jt P t= .ints n):∃fs,P.underlying t=some (.struct fs)/\RO P t=true/\fs.size=n:=by
 unfold Jt at h
 grind
def Jjx{t:AQ}{x y:D}{b:Bool}{u v:Ap}{S:Nat->Prop}{L:Ac (Nat×Nat)}(h:Ug (Jt P t) x y=some b)(f:Rep S L w u x)(e:Rep S L w v y)(s q:Operand):
  (∃xs r,u= .agg xs/\v= .agg r)/\(∀op,(eqGuard op t s q u v).run P w= .ok () w)/\(Op.equalIn 10000 t u v).run P w= .ok b w:=by
 unfold Ug at h;split at h
 ·rename_i k n xs r A;obtain⟨fs,l,i,rfl⟩:=Jxo A;split at h
  ·rename_i a c F C;split at h
   ·rename_i hs;obtain⟨g,j⟩:=hs;cases h;simp only[Rep]at f e;obtain⟨G,rfl,f⟩:=f;obtain⟨vs,rfl,e⟩:=e;have z:=Jj0 F f;have B:=Jj0 C e;subst z;subst B;unfold RO at i;simp only[l,DJ,zU,Ew]at i;obtain⟨⟨m,E⟩,o⟩:=i;have d:P.fieldsOf t=fs:=by simp[Program.fieldsOf,l]
    refine⟨⟨_,_,rfl,rfl⟩,fun op=>run_eqGuard_agg w op t s q _ _ E,?_⟩;have:=run_equalIn_agg (P:=P) w 9999 t (a.map (Value.int .i64)).toArray (c.map (Value.int .i64)).toArray (by rw[d];exact l) m;rw[this,d,Qd3 a c fs.toList 0 (by simpa using g) (by simpa using j) (fun p hp=> ?_) w]
    ·simp
    grind
   ·cases h
  ·cases h
 ·cases h
def B4{t:AQ}(h:Jt P t= .ifc):∃ms,P.underlying t=some (.interface ms):=by
 unfold Jt at h
 grind
def Jdn(w:AA)(n:Nat)(t u:AQ)(x:Ap){ms:CX (String×AQ)}(h:P.underlying t=some (.interface ms)):(Op.equalIn (n+1) t (.iface u x) .nilIface).run P w= .ok false w:=by
 simp[Op.equalIn,run_underlying h]
def Jh5(w:AA)(n:Nat)(t:AQ){ms:CX (String×AQ)}(h:P.underlying t=some (.interface ms)):(Op.equalIn (n+1) t .nilIface .nilIface).run P w= .ok true w:=by
 simp[Op.equalIn,run_underlying h]
def Jqt{op:BinOp}{t:AQ}{k:IntKind}{a b:Int}{d:D}(h:EJ op k a b=some d)(i:op≠ .shl)(g:op≠ .shr)(e f:Operand){S:Nat->Prop}{L:Ac (Nat×Nat)}:
  ∃r,(do eqGuard op t e f (.int k a) (.int k b);binOp op t (.int k a) (.int k b):Sem Ap).run P w= .ok r w/\Rep S L w r d:=by
 cases op<;>simp only[EJ,CE]at h<;>first|(cases h;done)|skip
 case quo=>
  split at h
  ·cases h
  ·rename_i c;cases h;refine⟨_,?_,by simp only[Rep];rfl⟩;simp[eqGuard,binOp,Op.intDiv,c]
 case rem=>
  split at h
  ·cases h
  ·rename_i c;cases h;refine⟨_,?_,by simp only[Rep];rfl⟩;simp[eqGuard,binOp,Op.intDiv,c]
 all_goals subst h
 all_goals refine⟨_,?_,by simp only[Rep];rfl⟩
 all_goals simp[eqGuard,binOp,Op.intArith,Op.intCmp,Op.intBits]
def JaJ{op:BinOp}{t:AQ}{k c:IntKind}{a b:Int}{d:D}(h:LX op k a b=some d)(f g:Operand){S:Nat->Prop}{L:Ac (Nat×Nat)}:
  ∃r,(do eqGuard op t f g (.int k a) (.int c b);binOp op t (.int k a) (.int c b):Sem Ap).run P w= .ok r w/\Rep S L w r d:=by
 unfold LX at h;split at h
 ·cases h
 ·rename_i e;split at h
  ·cases h;refine⟨_,?_,by simp only[Rep];rfl⟩;simp[eqGuard,binOp,Op.shift,e]
  ·cases h;refine⟨_,?_,by simp only[Rep];rfl⟩;simp[eqGuard,binOp,Op.shift,e]
  ·cases h
def Jt5{op:BinOp}{t:AQ}{a b:Tc}{d:D}(h:Ux op a b=some d)(e f:Operand){S:Nat->Prop}{L:Ac (Nat×Nat)}:
  ∃r,(do eqGuard op t e f (.string a) (.string b);binOp op t (.string a) (.string b):Sem Ap).run P w= .ok r w/\Rep S L w r d:=by
 unfold Ux at h;split at h
 ·split at h
  ·rename_i g;cases h;have:¬(9223372036854775807<((a.size+b.size:Nat):Int)):=by omega
   have c:¬(9223372036854775807<(a.size:Int)+(b.size:Int)):=by omega
   refine⟨_,?_,by simp only[Rep];rfl⟩;simp[eqGuard,binOp,Op.stringOp,c]
  ·cases h
 all_goals first|(cases h;done)|skip
 all_goals cases h
 all_goals refine⟨_,?_,by simp only[Rep];rfl⟩
 all_goals rfl
def Jgv(w:AA)(d:Nat)(t:AQ){e:AQ}(a:Addr)(n c:Nat)(h:P.underlying t=some (.slice e)):(Op.equalIn (d+1) t (.slice (some a) n c) (.slice none 0 0)).run P w= .ok false w:=by
 simp[Op.equalIn,run_underlying h]
def Jja{op:BinOp}{t:AQ}{d:D}{n c:Nat}{S:Nat->Prop}{L:Ac (Nat×Nat)}(h:(match op,Jt P t with| .eql,.sl=>some (D.v (.bool false))| .neq,.sl=>some (D.v (.bool true))|_,_=>none)=some d)(a:Addr)(f g:Operand):
  ∃r,(do eqGuard op t f g (.slice (some a) n c) (.slice none 0 0);binOp op t (.slice (some a) n c) (.slice none 0 0):Sem Ap).run P w= .ok r w/\Rep S L w r d:=by
 split at h
 ·rename_i ht;obtain⟨e,b⟩:=kK ht;cases h;refine⟨_,?_,by simp only[Rep];rfl⟩;simp[eqGuard,binOp,Op.equal,Op.maxDepth,Jgv w 9999 t _ _ _ b]
 ·rename_i ht;obtain⟨e,b⟩:=kK ht;cases h;refine⟨_,?_,by simp only[Rep];rfl⟩;simp[eqGuard,binOp,Op.equal,Op.maxDepth,Jgv w 9999 t _ _ _ b]
 ·cases h
def QcI{t:AQ}(h:Jt P t= .ptr):∃e,P.underlying t=some (.pointer e):=by
 unfold Jt at h
 grind
def Jxr(w:AA)(n:Nat)(t:AQ){e:AQ}(p:Af Addr)(h:P.underlying t=some (.pointer e)):(Op.equalIn (n+1) t (.pointer p) (.pointer none)).run P w= .ok p.isNone w:=by
 cases p<;>simp[Op.equalIn,run_underlying h]
def Jdz{t:AQ}{x y:D}{b:Bool}{u v:Ap}{S:Nat->Prop}{L:Ac (Nat×Nat)}(ht:Jt P t= .ptr)(h:DA x y=some b)(a:Rep S L w u x)(c:Rep S L w v y)(f g:Operand){op:BinOp}(d:op= .eql\/op= .neq):
  (do eqGuard op t f g u v;binOp op t u v:Sem Ap).run P w= .ok (.bool (if op= .eql then b else !b)) w:=by
 obtain⟨e,i⟩:=QcI ht;have key:∀(p:Af Addr),u= .pointer p->v= .pointer none->b=p.isNone->(do eqGuard op t f g u v;binOp op t u v:Sem Ap).run P w= .ok (.bool (if op= .eql then b else !b)) w:=by
  rintro p rfl rfl rfl;rcases d with rfl|rfl<;>simp[eqGuard,binOp,Op.equal,Op.maxDepth,Jxr w 9999 t _ i]
 unfold DA at h;split at h
 ·cases h
  simp only[Rep]at a c
  grind
 ·cases h
  simp only[Rep]at a c
  grind
 ·cases h
  simp only[Rep]at a c;exact key _ a c rfl
 ·cases h
def QeF{op:BinOp}{t:AQ}{x y d:D}{u v:Ap}{S:Nat->Prop}{L:Ac (Nat×Nat)}(h:Ag (Jt P t) op x y=some d)(g:Rep S L w u x)(f:Rep S L w v y)(j i:Operand):
  ∃r,(do eqGuard op t j i u v;binOp op t u v:Sem Ap).run P w= .ok r w/\Rep S L w r d:=by
 unfold Ag at h;split at h
 ·rename_i k a G b;simp only[Rep]at g f;subst g;subst f;split at h
  ·exact JaJ h j i
  ·exact JaJ h j i
  ·rename_i l n;split at h
   ·rename_i B;subst B;exact Jqt h (fun e=>l e) (fun e=>n e) j i
   ·cases h
 ·rename_i a b;simp only[Rep]at g f;subst g;subst f;split at h
  ·rename_i ht;cases h;refine⟨_,?_,by simp only[Rep];rfl⟩;simp[eqGuard,binOp,Op.equal,Op.maxDepth,run_equalIn_bool' w 9999 t a b (Jcu ht)]
  ·rename_i ht;cases h;refine⟨_,?_,by simp only[Rep];rfl⟩;simp[eqGuard,binOp,Op.equal,Op.maxDepth,run_equalIn_bool' w 9999 t a b (Jcu ht)]
  ·cases h
 ·rename_i a b;simp only[Rep]at g f;subst g;subst f;exact Jt5 h j i
 ·rename_i H e;simp only[Rep]at g f;obtain⟨z,rfl,_⟩:=g;subst f;split at h
  ·rename_i ht;obtain⟨ms,q⟩:=B4 ht;cases h;refine⟨_,?_,by simp only[Rep];rfl⟩;simp[eqGuard,binOp,Op.equal,Op.maxDepth,Jdn w 9999 t _ _ q]
  ·rename_i ht;obtain⟨ms,q⟩:=B4 ht;cases h;refine⟨_,?_,by simp only[Rep];rfl⟩;simp[eqGuard,binOp,Op.equal,Op.maxDepth,Jdn w 9999 t _ _ q]
  ·cases h
 ·rename_i sz C F;simp only[Rep]at g f;subst f;obtain⟨b,o,cap,rfl⟩:∃b o cap,u= .slice (some ⟨b,o,none⟩) (C::F).length cap:=by grind
  exact Jja h _ j i
 ·simp only[Rep]at g f;obtain⟨b,c,_,_,rfl⟩:=g;subst f;exact Jja h _ j i
 ·split at h
  ·rename_i ht;obtain⟨b,A,rfl⟩:=DV.1 h;exact⟨_,Jdz ht A g f j i (.inl rfl),by simp only[Rep];rfl⟩
  ·rename_i ht;obtain⟨b,A,rfl⟩:=DV.1 h;exact⟨_,Jdz ht A g f j i (.inr rfl),by simp only[Rep];rfl⟩
  ·cases m:Ug (Jt P t) x y with
   |none=>rw[m]at h;cases h
   |some b=>
    rw[m]at h;simp only[Dt,CE]at h;subst h;obtain⟨⟨xs,E,p,s⟩,l,n⟩:=Jjx m g f j i;refine⟨.bool b,?_,by simp only[Rep]⟩;rw[p,s]at l n⊢;simp[l,run_eql_struct,n]
  ·cases m:Ug (Jt P t) x y with
   |none=>rw[m]at h;cases h
   |some b=>
    rw[m]at h;simp only[Dt,CE]at h;subst h;obtain⟨⟨xs,E,p,s⟩,l,n⟩:=Jjx m g f j i;refine⟨.bool !b,?_,by simp only[Rep]⟩;rw[p,s]at l n⊢;simp[l,run_neq_struct,n]
  ·cases h
def Jyx{op:BinOp}{t:AQ}{x y d:D}{u v:Ap}{S:Nat->Prop}{L:Ac (Nat×Nat)}(a b:Operand)(h:VX (Xk a||Xk b) (Jt P t) op x y=some d)(e:Rep S L w u x)(f:Rep S L w v y):
  ∃r,(do eqGuard op t a b u v;binOp op t u v:Sem Ap).run P w= .ok r w/\Rep S L w r d:=by
 unfold VX at h;split at h
 ·simp only[Rep]at e f;subst e;subst f;have i:(Xk a||Xk b)=true->∀op,(eqGuard op t a b .nilIface .nilIface).run P w= .ok () w:=by
   intro c op;cases op<;>first|(simp[eqGuard];done)|skip
   all_goals cases a<;>cases b<;>first|(simp[eqGuard];done)|(simp[Xk]at c)
  split at h
  ·rename_i c ht;obtain⟨ms,g⟩:=B4 ht;cases h;refine⟨_,?_,by simp only[Rep];rfl⟩;simp[i c,binOp,Op.equal,Op.maxDepth,Jh5 w 9999 t g]
  ·rename_i c ht;obtain⟨ms,g⟩:=B4 ht;cases h;refine⟨_,?_,by simp only[Rep];rfl⟩;simp[i c,binOp,Op.equal,Op.maxDepth,Jh5 w 9999 t g]
  ·cases h
 ·exact QeF h e f a b
end
section
variable {P : Aj} {w : AA}
def QeO{t:AQ}{x d:D}{v:Ap}{S:Nat->Prop}{L:Ac (Nat×Nat)}(h:OT (Jt P t) x=some d)(a:Rep S L w v x)(ts:CX AQ)(ht:ts[0]? =some t)(i:AQ):
  ∃r,(Builtin.len_ ts i #[v]).run P w= .ok r w/\Rep S L w r d:=by
 unfold OT at h;split at h
 ·rename_i k s els g;obtain⟨e,f⟩:=kK g;cases h;simp only[Rep]at a;rcases a with⟨rfl,p,cap,rfl,_⟩|⟨b,o,cap,rfl,_⟩
  ·exact⟨_,by simp[Builtin.len_,ht,run_underlying f];rfl,by simp only[Rep];rfl⟩
  ·exact⟨_,by simp[Builtin.len_,ht,run_underlying f];rfl,by simp only[Rep];rfl⟩
 ·rename_i k p n c g;obtain⟨e,f⟩:=kK g;cases h;simp only[Rep]at a;subst a;exact⟨_,by simp[Builtin.len_,ht,run_underlying f];rfl,by simp only[Rep];rfl⟩
 ·rename_i k s g;have f:=Jmx g;cases h;simp only[Rep]at a;subst a;exact⟨_,by simp[Builtin.len_,ht,run_underlying f];rfl,by simp only[Rep];rfl⟩
 ·cases h
def Jv1{S:Nat->Prop}{L:Ac (Nat×Nat)}(f:Int->Int->Int)(g:Ap->Ap->Sem Ap)(s:∀k m a b,g (.int k a) (.int m b)=pure (.int k (f a b)))(k:IntKind)(ds:Ac D)(vs:Ac Ap)(a:Int)(n:Int)
  (h:ds.foldl (dV f) (some a)=some n) (i:Au S L w vs ds):(vs.foldlM g (.int k a)).run P w= .ok (.int k n) w:=by
 induction ds generalizing vs a with
 |nil=>simp only[Au]at i;simp_all
 |cons d r o=>
  simp only[Au]at i;obtain⟨x,u,rfl,p,v⟩:=i;simp only[LT]at h;have j:∀l:Ac D,l.foldl (dV f) (none:Af Int)=none:=by
   intro l
   induction l with
   |nil=>rfl
   |cons e t o=>rw[LT];exact o
  unfold dV at h;split at h
  ·rename_i q m b c;cases c;simp only[Rep]at p;subst p;change r.foldl (dV f) _=_ at h
   grind
  ·change r.foldl (dV f) none=_ at h;grind
def JfF{S:Nat->Prop}{L:Ac (Nat×Nat)}{d:D}(f:Int->Int->Int)(g:Ap->Ap->Sem Ap)(l:∀k j a b,g (.int k a) (.int j b)=pure (.int k (f a b)))(ds:Ac D)(vs:Ac Ap)
  (h:Hv f ds=some d) (e:Au S L w vs ds):∃x r y,vs=x::r/\(r.foldlM g x).run P w= .ok y w/\Rep S L w y d:=by
 unfold Hv at h;split at h
 ·rename_i k a r;simp only[Au]at e;obtain⟨x,m,rfl,i,o⟩:=e;simp only[Rep]at i;subst i;cases c:r.foldl (dV f) (some a)with
  |none=>rw[c]at h;cases h
  |some n=>
   rw[c]at h;simp only[Dt,CE]at h;subst h;exact⟨_,_,_,rfl,Jv1 f g l k r m a n c o,by simp only[Rep]⟩
 ·cases h
def Au.ops{S:Nat->Prop}{L:Ac (Nat×Nat)}{ρv:Operand->Ap}{ρd:Operand->D}(b:∀x,Rep S L w (ρv x) (ρd x))(l:Ac Operand):Au S L w (l.map ρv) (l.map ρd):=by
 induction l with
 |nil=>exact Au.nil
 |cons a r c=>exact Au.cons (b a) c
def gW{S:Nat->Prop}{L:Ac (Nat×Nat)}{ρv:Operand->Ap}{ρd:Operand->D}(a:∀x,Rep S L w (ρv x) (ρd x))(o:Af Operand):TY S L w (o.map ρv) (o.map ρd):=by
 cases o with
 |none=>exact .inl ⟨rfl,rfl⟩
 |some x=>exact .inr ⟨_,_,rfl,rfl,a x⟩
end
section
variable {P : Aj}
def JcU{w:AA}(base:Nat)(t y e:AQ)(i:TypeInfo)(z:Ap)(size bytes:Nat)(ht:P.underlying t=some (.slice e))(A:P.info? e=some i)(C:i.zero=some z)
  (f:i.size=size) (l:i.bytes=bytes) (r:z.cells.size=size) (n:0<size)
  (v:Ap) (k:Nat) (xs:Ac Ap) (c:w.ownsRow base e size v k xs) {S:Nat->Prop} (u:Ap) (m:Nat) (a:Ac Ap) (I:Gp S w u m a) (H:a.length=m*size)
  (G:∀x∈a,x.oneCell'=true) (h:k+m<=maxLen) (d:(k+m)*bytes<=140737488355328) (g:base<=w.heap.size):
  ∃s q,(Builtin.append_ #[t,t] y #[v,u]).run P w= .ok s q/\q.ownsRow base e size s (k+m) (xs++a)/\w.grownBy q v.ownBlock:=by
 rcases I with⟨p,cap,rfl,rfl,rfl,hp⟩|⟨b,o,cap,rfl,M,L,K,B⟩
 ·cases p with
  |none=>
   rw[hp rfl];exact⟨v,w,run_append_owned_none w base t y e i size ht A v k xs c,by simpa using c,⟨rfl,rfl,rfl,BQ _,fun _ _ _=>rfl⟩⟩
  |some ad=>
   obtain⟨s,q,F,D,J,_⟩:=run_append_own (P:=P) w base t y e i z size bytes ht A C f l r n v k xs c ad 0 cap [] (by simp) (by simp) (by simp) h d g
   grind
 ·obtain⟨s,q,F,D,J,_⟩:=run_append_own (P:=P) w base t y e i z size bytes ht A C f l r n v k xs c ⟨b,o,none⟩ m cap a H (fun j x E=>by
   have N:j<a.length:=(CV.1 E).1;have:((⟨b,o,none⟩:Addr).add j)=⟨b,o+j,none⟩:=by
    unfold Addr.add;split
    ·simp
    ·rfl
   grind) G h d g
  grind
def PA{w:AA}{ops:CX Oper}{d:Ac Oper}{o:Oper}{a:Act}{Q:Exit->Act->AA->Prop}(M:o.guard=none)(s x:Operand)(t:AQ)
  (r:o.op=Op.call {callee:=Callee.builtin Builtin.append,args:= #[s,x],argTypes:= #[t,t]})
  (base:Nat) (e:AQ) (i:TypeInfo) (z:Ap) (size bytes:Nat) (ht:P.underlying t=some (.slice e)) (H:P.info? e=some i) (F:i.zero=some z)
  (f:i.size=size) (y:i.bytes=bytes) (B:z.cells.size=size) (A:0<size)
  (v:Ap) (k:Nat) (xs:Ac Ap) (hs:a.eval s=v) (l:w.ownsRow base e size v k xs) {S:Nat->Prop} (u:Ap) (m:Nat) (b:Ac Ap) (D:a.eval x=u) (L:Gp S w u m b) (J:b.length=m*size)
  (I:∀x∈b,x.oneCell'=true) (q:k+m<=maxLen) (c:(k+m)*bytes<=140737488355328) (g:base<=w.heap.size)
  (E:∀n j,j.ownsRow base e size n (k+m) (xs++b)->w.grownBy j v.ownBlock->wpList P ops Q d (a.put o.dst n) j):wpList P ops Q (o::d) a w:=by
 refine wpList_plain M fun K p=> ?_;obtain⟨n,j,h,G,C⟩:=JcU (P:=P) base t o.type e i z size bytes ht H F f y B A v k xs l u m b L J I q c g;unfold Oper.wp;simp[execOp,r,resolve,invoke,builtin,hs,D,h,Result.andThen];exact p _ _ (E n j G C)
def Jvb(l:Ac Int):∀x∈l.map (Value.int .i64),x.oneCell'=true:=fun x a=>by
 obtain⟨_,_,rfl⟩:=GN.1 a;rfl
def Pk(l:Ac Nd):∀x∈Gz l,x.oneCell'=true:=fun x a=>by
 simp only[Gz,zV,FY,QZ,or_false]at a;obtain⟨_,_,rfl|rfl⟩:=a<;>rfl
def Jhn(w:AA)(v:Ap)(t:AQ):Gp (fun k=>k<(w.alloc (.cells #[v] t)).heap.size) (w.alloc (.cells #[v] t)) (.slice (some ⟨w.heap.size,0,none⟩) 1 1) 1 [v]:=by
 refine .inr ⟨w.heap.size,0,1,rfl,by omega,by omega,by simp,fun j a=> ?_⟩;simp
def Dm(w:AA)(base:Nat)(e:AQ)(size:Nat)(a:base<=w.heap.size):(w.alloc (.cells #[] e)).ownsRow base e size (.slice (some ⟨w.heap.size,0,none⟩) 0 0) 0 []:=
 World.ownsRow_lit w #[] 0 a (by simp) (by simp)
end
def Gr(w:AA)(o:Obj){k:Nat}(a:k<w.heap.size):(w.alloc o).heap[k]? =w.heap[k]? :=by
 show(w.heap.push o)[k]? =w.heap[k]?
 grind
def Wt{S:Nat->Prop}{L:Ac (Nat×Nat)}{w:AA}{d:D}{x:Ap}(h:Df d=true)(g:Rep S L w x d):x.oneCell'=true:=by
 cases d with
 |undef=>cases h
 |agg=>cases h
 |tup=>cases h
 |v y=>
  simp only[Rep]at g;subst g;cases x with
  |agg=>cases h
  |tuple=>cases h
  |_=>rfl
 |sl sz els=>
  simp only[Rep]at g;rcases g with⟨_,p,cap,rfl,_⟩|⟨b,o,cap,rfl,_⟩<;>rfl
 |ptr cs=>simp only[Rep]at g;obtain⟨b,o,rfl,_⟩:=g;rfl
 |hp i o=>simp only[Rep]at g;obtain⟨b,c,_,rfl⟩:=g;rfl
 |hs i n=>simp only[Rep]at g;obtain⟨b,c,_,_,rfl⟩:=g;rfl
 |ifc t e=>simp only[Rep]at g;obtain⟨y,rfl,_⟩:=g;rfl
 |clo f a b=>simp only[Rep]at g;obtain⟨y,z,rfl,_⟩:=g;rfl
 |mp i=>simp only[Rep]at g;obtain⟨b,c,_,rfl⟩:=g;rfl
 |mv k vs=>simp only[Rep]at g;obtain⟨b,arr,j,rfl,_⟩:=g;rfl
 |ht i o n=>simp only[Rep]at g;obtain⟨b,c,o,cap,_,rfl,_⟩:=g;rfl
 |yld i=>simp only[Rep]at g;obtain⟨b,c,_,rfl⟩:=g;rfl
def NX{S:Nat->Prop}{L:Ac (Nat×Nat)}{w:AA}{xs:Ac Ap}{ds:Ac D}(h:Au S L w xs ds)(a:ds.all Df=true):∀x∈xs,x.oneCell'=true:=by
 induction ds generalizing xs with
 |nil=>simp only[Au]at h;subst h;simp
 |cons d r g=>
  simp only[Au]at h;obtain⟨x,e,rfl,c,f⟩:=h;simp only[Na,DJ]at a;intro y b;rcases FY.1 b with rfl|b
  ·exact Wt a.1 c
  grind
section
variable {B : Nat} {S : Nat → Prop} {L : Ac (Nat × Nat)} {w : AA} {H : Ae}
def BD.lt'(h:BD B S L w H){id:Nat}{o:HO}(hid:H[id]? =some o)(d:o≠ .dead){p:Nat×Nat}(hp:L[id]? =some p):B<=p.1/\p.1<w.heap.size/\¬S p.1:=by
 obtain⟨b,c,a,g,e,f⟩:=h.obj id o hid d;rw[hp]at a;cases a;exact⟨g,f.lt d,e⟩
def BD.lt(h:BD B S L w H){id:Nat}{t:AQ}{sz:Nat}{cs:Ac D}(hid:H[id]? =some (HO.cells t sz cs)){p:Nat×Nat}(hp:L[id]? =some p):B<=p.1/\p.1<w.heap.size/\¬S p.1:=h.lt' hid (by intro e;cases e) hp
def BD.newO(h:BD B S L w H)(i:AA)(e:i.heap=w.heap)(E:Below B w i)(m:Obj)(c:Nat)(o:HO)
  (D:∀v K,(∀x d,Rep S L w x d->Rep S K v x d)->(∀xs ds,Au S L w xs ds->Au S K v xs ds)->v.heap[w.heap.size]? =some m->PO S K v w.heap.size c o):
  BD B S (L++[(w.heap.size,c)]) (i.alloc m) (H++[o])/\Later B S S L (L++[(w.heap.size,c)]) w (i.alloc m):=by
 have F:(i.alloc m).heap.size=w.heap.size+1:=by simp[e]
 have f:∀k,k<w.heap.size->(i.alloc m).heap[k]? =w.heap[k]? :=fun k g=>by rw[Gr i _ (by rw[e];exact g),e]
 have u:(i.alloc m).heap[w.heap.size]? =some m:=by rw[<-e];exact heap_alloc_new i _
 have l:Later B S S L (L++[(w.heap.size,c)]) w (i.alloc m):=by
  refine⟨E.alloc (by rw[e];exact h.base) _,⟨by omega,fun k g=>f k (h.small k g)⟩,fun _ g=>g,zW _ _,fun _ h=> .inl h,fun k g=>(f k (IY.1 g).1).trans g⟩
 refine⟨⟨by simp[h.len],fun k g=>by have:=h.small k g;omega,by have:=h.base;omega,?_,?_⟩,l⟩
 ·intro id q hid j;by_cases n:id<H.length
  ·rw[Ii n]at hid;obtain⟨b,Q,I,y,J,G⟩:=h.obj id q hid j;exact⟨b,Q,TM (zW _ _) _ _ I,y,J,G.kept (f b (G.lt j)) (fun _ _=>l.rep) (fun _ _=>l.repA)⟩
  ·have t:=(CV.1 hid).1;simp only[DC,Ej,Hf]at t;have a:id=H.length:=by omega
   subst a;rw[SV (BQ _)]at hid;simp only[oW,zO,CE]at hid;subst hid;exact⟨w.heap.size,c,by rw[<-h.len];simp,h.base,fun O=>by have:=h.small _ O;omega,D _ _ (fun _ _=>l.rep) (fun _ _=>l.repA) u⟩
 ·intro id C W V p T hid r a s hp A z;have old:∀{id:Nat} {q:HO} {p:Nat×Nat},(H++[o])[id]? =some q->q≠ .dead->(L++[(w.heap.size,c)])[id]? =some p->
    (id<H.length/\H[id]? =some q/\L[id]? =some p/\p.1<w.heap.size)\/(id=H.length/\p.1=w.heap.size):=by
   intro id q p hid j hp;have n:id<(H++[o]).length:=(CV.1 hid).1;simp only[DC,Ej,Hf]at n;by_cases l:id<H.length
   ·rw[Ii l]at hid;rw[Ii (by rw[h.len];exact l)]at hp;exact .inl ⟨l,hid,hp,(h.lt' hid j hp).2.1⟩
   ·have R:id=H.length:=by omega
    subst R;rw[<-h.len,SV (BQ _)]at hp
    grind
  rcases old hid r hp with⟨I,y,J,G⟩|⟨I,y⟩<;>rcases old a s A with⟨P,M,N,U⟩|⟨P,M⟩
  ·exact h.inj id C _ _ p T y r M s J N z
  ·omega
  ·omega
  ·omega
def BD.new(h:BD B S L w H)(b:AA)(f:b.heap=w.heap)(e:Below B w b)(t:AQ)(sz c:Nat)(cs:Ac D)(arr:CX Ap)(g:arr.size=c*sz)(k:c<=maxLen)(a:cs.length<=arr.size)
  (i:∀(j:Nat) (d:D),cs[j]? =some d->∃x,arr[j]? =some x/\x.oneCell'=true/\Rep S L w x d):
  BD B S (L++[(w.heap.size,c)]) (b.alloc (.cells arr t)) (H++[.cells t sz cs])/\Later B S S L (L++[(w.heap.size,c)]) w (b.alloc (.cells arr t)):=
 h.newO b f e (.cells arr t) c (.cells t sz cs) fun o p m _ l=>⟨arr,l,g,k,a,fun j d n=>by grind⟩
def Zx(H:Ae)(id i:Nat)(o a:HO)(h:(H.set id o)[i]? =some a):(i=id/\o=a/\id<H.length)\/(i≠id/\H[i]? =some a):=by grind
def BD.kill(h:BD B S L w H)(id:Nat):BD B S L w (H.set id .dead):=by
 refine⟨by simp[h.len],h.small,h.base,?_,?_⟩
 ·intro i o f a;rcases Zx H id i _ o f with⟨_,e,_⟩|⟨_,e⟩
  ·exact absurd e.symm a
  ·exact h.obj i o e a
 ·intro i j o k p l f a m b hp d c;rcases Zx H id i _ o f with⟨_,e,_⟩|⟨_,e⟩
  ·exact absurd e.symm a
  ·rcases Zx H id j _ k m with⟨_,g,_⟩|⟨_,g⟩
   ·grind
   ·exact h.inj i j o k p l e a g b hp d c
def BD.writeO(h:BD B S L w H){id:Nat}{o:HO}(hid:H[id]? =some o)(s:o≠ .dead){b c:Nat}(t:L[id]? =some (b,c))(f:AA)(u:HO)(aa:u≠ .dead)
  (C:f.os=w.os) (Q:f.tape=w.tape) (v:f.output=w.output) (n:f.heap.size=w.heap.size) (a:∀k,k≠b->f.heap[k]? =w.heap[k]?)
  (I:(∀x d,Rep S L w x d->Rep S L f x d)->(∀xs ds,Au S L w xs ds->Au S L f xs ds)->PO S L f b c u):
  BD B S L f (H.set id u)/\Later B S S L L w f:=by
 obtain⟨U,y,P⟩:=h.lt' hid s t;simp only at U y P;have m:w.heap[b]? ≠some (.deferred (some [])):=by
  obtain⟨b',c',q,_,_,z⟩:=h.obj id o hid s;rw[t]at q;cases q;exact z.mark s _
 have r:Later B S S L L w f:=⟨⟨C,Q,v,by omega,fun k l=>a k (by omega)⟩,⟨by omega,fun k l=>a k (fun e=>P (e▸l))⟩,fun _ l=>l,eF _,fun _ h=> .inl h,fun k l=>(a k (fun e=>m (e▸l))).trans l⟩;refine⟨⟨by simp[h.len],fun k l=>by rw[n];exact h.small k l,by omega,?_,?_⟩,r⟩
 ·intro i O N g;rcases Zx H id i _ O N with⟨A,e,_⟩|⟨A,e⟩
  ·subst A;subst e;exact⟨b,c,t,U,P,I (fun _ _=>r.rep) (fun _ _=>r.repA)⟩
  ·obtain⟨J,c2,q,Z,V,z⟩:=h.obj i O e g;have M:J≠b:=fun Y=>A (h.inj i id _ _ _ _ e g hid s q t Y);exact⟨J,c2,q,Z,V,z.kept (a J M) (fun _ _=>r.rep) (fun _ _=>r.repA)⟩
 ·intro i j R O p p' N D hj g hp F E;have back:∀{i:Nat} {R:HO},(H.set id u)[i]? =some R->R≠ .dead->∃T,H[i]? =some T/\T≠ .dead:=by grind
  obtain⟨_,W,G⟩:=back N D;obtain⟨_,X,K⟩:=back hj g;exact h.inj i j _ _ p p' W G X K hp F E
def BD.write(h:BD B S L w H){id:Nat}{t:AQ}{sz:Nat}{cs:Ac D}(hid:H[id]? =some (HO.cells t sz cs)){b c:Nat}(l:L[id]? =some (b,c))(a:CX Ap)(cs':Ac D)(g:a.size=c*sz)(f:cs'.length<=a.size)
  (m:∀(j:Nat) (d:D),cs'[j]? =some d->∃x,a[j]? =some x/\x.oneCell'=true/\Rep S L w x d):
  BD B S L (w.setRow b a) (H.set id (.cells t sz cs'))/\Later B S S L L w (w.setRow b a):=by
 obtain⟨v,q,arr,i,z,s,o,C,n,A,r⟩:=h.live id t sz cs hid;rw[l]at i;cases i;exact h.writeO hid (by intro e;cases e) l _ (.cells t sz cs') (by intro e;cases e) rfl rfl rfl (by simp) (fun k p=>setRow_other w b k a p) fun u _=>
  ⟨a,setRow_heap w b arr a t (0,0) o,g,n,f,fun j d y=>by grind⟩
def BD.move(h:BD B S L w H){id:Nat}{o:HO}(hid:H[id]? =some o)(s:o≠ .dead){b c:Nat}(v:L[id]? =some (b,c)):
  BD B S (L++[(b,c)]) w (H.set id .dead++[o])/\Later B S S L (L++[(b,c)]) w w:=by
 have n:Later B S S L (L++[(b,c)]) w w:=⟨Below.refl _ _,Kept.refl _ _,fun _ P=>P,zW _ _,fun _ h=> .inl h,fun _ h=>h⟩;obtain⟨X,V,D,T,R,O⟩:=h.obj id o hid s;rw[v]at D;cases D;have x:(H.set id .dead).length=H.length:=by simp
 have a:∀{i:Nat} {e:HO},(H.set id .dead++[o])[i]? =some e->e≠ .dead->(i<H.length/\i≠id/\H[i]? =some e)\/(i=H.length/\o=e):=by grind
 refine⟨⟨by simp[h.len],h.small,h.base,?_,?_⟩,n⟩
 ·intro i e m f;rcases a m f with⟨l,r,C⟩|⟨l,r⟩
  ·obtain⟨K,q,J,M,I,G⟩:=h.obj i e C f;exact⟨K,q,TM (zW _ _) _ _ J,M,I,G.kept rfl (fun _ _=>n.rep) (fun _ _=>n.repA)⟩
  ·subst l;subst r;exact⟨b,c,by rw[<-h.len];simp,T,R,O.kept rfl (fun _ _=>n.rep) (fun _ _=>n.repA)⟩
 ·intro i j Y W p F m g N k hp u d;have key:∀{i:Nat} {e:HO} {p:Nat×Nat},(H.set id .dead++[o])[i]? =some e->e≠ .dead->(L++[(b,c)])[i]? =some p->
    (i<H.length/\i≠id/\H[i]? =some e/\L[i]? =some p)\/(i=H.length/\p=(b,c)):=by
   intro i e p m f hp;rcases a m f with⟨l,r,C⟩|⟨l,r⟩
   ·rw[Ii (by rw[h.len];exact l)]at hp
    grind
   ·subst l;rw[<-h.len,SV (BQ _)]at hp
    grind
  rcases key m g hp with⟨U,t,y,z⟩|⟨U,t⟩<;>rcases key N k u with⟨Q,q,E,A⟩|⟨Q,q⟩
  ·exact h.inj i j _ _ p F y g E k z A d
  ·exfalso;rw[q]at d;exact t (h.inj i id _ _ p (b,c) y g hid s z v d)
  ·exfalso;rw[t]at d;exact q (h.inj j id _ _ F (b,c) E k hid s A v d.symm)
  ·omega
end
def KZ{w:AA}{b:Nat}{arr:CX Ap}{t:AQ}(h:w.heap[b]? =some (.cells arr t (0,0)))(j:Nat):w.cell? ⟨b,j,none⟩=arr[j]? :=by
 simp[World.cell?,h]
section
variable {P : Aj} {B : Nat} {S : Nat → Prop} {L : Ac (Nat × Nat)} {w : AA} {H : Ae}
def EM.flat{b o sz:Nat}{els:Ac (Ac D)}(h:EM S L w b o sz els):Eg S L w b o els.flatten/\els.flatten.length=els.length*sz:=by
 induction els generalizing o with
 |nil=>simp[Eg]
 |cons e r g=>
  simp only[EM]at h;obtain⟨p,f,c⟩:=h;obtain⟨d,s⟩:=g c;refine⟨?_,by grind⟩;obtain⟨xs,a,k⟩:=f.values;obtain⟨n,i,m⟩:=d.values;refine Eg.of (a.append i) fun j x l=> ?_;have q:=a.length
  grind
def SE(h:BD B S L w H){id:Nat}{t:AQ}{sz:Nat}{cs:Ac D}(hid:H[id]? =some (HO.cells t sz cs)){b c:Nat}(q:L[id]? =some (b,c)):
  ∃arr:CX Ap,w.heap[b]? =some (.cells arr t (0,0))/\arr.size=c*sz/\c<=maxLen/\cs.length<=arr.size/\Au S L w (arr.toList.take cs.length) cs:=by
 obtain⟨C,v,arr,f,E,A,m,u,l,s,z⟩:=h.live id t sz cs hid;rw[q]at f;cases f;refine⟨arr,m,u,l,s,?_⟩;have key:∀(cs:Ac D) (xs:Ac Ap),cs.length<=xs.length->(∀(j:Nat) (d:D),cs[j]? =some d->∃x,xs[j]? =some x/\Rep S L w x d)->Au S L w (xs.take cs.length) cs:=by
  intro cs
  induction cs with
  |nil=>intro xs _ _;simp[Au]
  |cons d r n=>
   intro xs g i;cases xs with
   |nil=>simp at g
   |cons y p=>
    obtain⟨x,e,a⟩:=i 0 d rfl;have:y=x:=by simpa using e
    subst this;simp only[Ej,QX];exact Au.cons a (n p (by simpa using g) fun j o k=>by simpa using i (j+1) o (by simpa using k))
 grind
def JbY(S:Nat->Prop)(L:Ac (Nat×Nat))(w:AA)(sz:Nat)(u:Ap)(new:Ac D):Prop:=
 ∃p m cap vs,u= .slice p m cap/\new.length=m*sz/\Au S L w vs new/\((p=none/\m=0/\cap=0)\/∃a,p=some a/\∀(j:Nat) (v:Ap),vs[j]? =some v->w.cell? (a.add j)=some v)
def PF{sz:Nat}{x:D}{u:Ap}{new:Ac D}(h:GV sz H x=some new)(e:Rep S L w u x)(E:BD B S L w H):JbY S L w sz u new:=by
 have i:∀els,IU sz x=some els->new=els.flatten->JbY S L w sz u new:=by
  intro els y l;subst l;rcases cH y e with⟨rfl,p,cap,rfl,hp⟩|⟨b,o,cap,rfl,hp,F,M,k⟩
  ·refine⟨p,0,cap,[],rfl,by simp,Au.nil,?_⟩;cases p with
   |none=>grind
   |some a=>simp
  ·obtain⟨d,A⟩:=k.flat;obtain⟨vs,r,m⟩:=d.values;exact⟨_,_,_,vs,rfl,A,r.lift,.inr ⟨_,rfl,fun j v f=>by rw[NG];exact m j v f⟩⟩
 unfold GV at h;split at h
 ·rename_i id n;split at h
  ·rename_i t s cs hid;split at h
   ·rename_i F;cases h;obtain⟨rfl,g⟩:=F;simp only[Rep]at e;obtain⟨b,c,z,q,rfl⟩:=e;obtain⟨arr,d,A,r,m,C⟩:=SE E hid z;refine⟨_,_,_,(arr.toList.take cs.length).take (n*s),rfl,by simp;omega,C.take _,.inr ⟨_,rfl,fun j v f=> ?_⟩⟩;rw[NG,EE,KZ d]
    grind
   ·cases h
  ·cases h
 ·rename_i id off n;split at h
  ·rename_i t s cs hid;split at h
   ·rename_i g;cases h;simp only[Rep]at e;obtain⟨b,c,o,cap,z,rfl,q,J⟩:=e;obtain⟨arr,d,A,r,m,C⟩:=SE E hid z;refine⟨_,_,_,((arr.toList.take cs.length).drop off).take (n*sz),rfl,by simp;omega,(C.drop off).take _,.inr ⟨_,rfl,fun j v f=> ?_⟩⟩;have G:=(CV.1 f).1;have l:0<n:=by grind
    obtain rfl:=J l;rw[NG,KZ d]
    grind
   ·cases h
  ·cases h
 ·rename_i K I;cases y:IU sz x with
  |none=>rw[y]at h;cases h
  |some els=>
   grind
def cA{t e:AQ}{sz:Nat}(h:WA P t=some (e,sz)):∃i z,P.underlying t=some (.slice e)/\P.info? e=some i/\i.zero=some z/\i.size=sz/\z.cells.size=sz/\i.bytes<=1000:=by
 unfold WA at h;split at h
 ·rename_i b c;obtain⟨i,a,h⟩:=Bi.1 h
  grind
 ·cases h
def Jgi{vs b:Ac Ap}{ds c:Ac D}{zs:CX Ap}(l:Au S L w vs ds)(k:Au S L w b c)(m:ds.all Df=true)(n:c.all Df=true):
  ∀(j:Nat) (d:D),(ds++c)[j]? =some d->∃x,(vs.toArray++b.toArray++zs)[j]? =some x/\x.oneCell'=true/\Rep S L w x d:=by
 intro j d i;have g:=l.append k;obtain⟨x,e,a⟩:=g.get j d i;have f:Df d=true:=by grind
 have h:j<(vs++b).length:=(CV.1 e).1;refine⟨x,?_,Wt f a,a⟩
 grind
def BD.less(h:BD B S L w H){id:Nat}{t:AQ}{sz:Nat}{cs:Ac D}(hid:H[id]? =some (HO.cells t sz cs))(k:Nat):BD B S L w (H.set id (.cells t sz (cs.take k))):=by
 refine⟨by simp[h.len],h.small,h.base,?_,?_⟩
 ·intro i o g l;rcases Zx H id i _ o g with⟨rfl,e,_⟩|⟨_,e⟩
  ·subst e;obtain⟨b,c,arr,z,F,A,x,I,v,J,y⟩:=h.live i t sz cs hid;refine⟨b,c,z,F,A,arr,x,I,v,by grind,fun j d r=>y j d ?_⟩
   grind
  ·exact h.obj i o e l
 ·intro i j o K p E g l r f hp n m;have back:∀{i:Nat} {u:HO},(H.set id (.cells t sz (cs.take k)))[i]? =some u->u≠ .dead->∃s,H[i]? =some s/\s≠ .dead:=by grind
  obtain⟨_,C,q⟩:=back g l;obtain⟨_,G,a⟩:=back r f;exact h.inj i j _ _ p E C q G a hp n m
set_option maxHeartbeats 1000000 in
def Jbc{t e:AQ}{i:TypeInfo}{z:Ap}{s d:D}{v:Ap}{new:Ac D}{H':Ae}(ht:P.underlying t=some (.slice e))(k:P.info? e=some i)(hz:i.zero=some z)(Z:z.cells.size=i.size)(V:i.bytes<=1000)(h:KW e i.size s new H=some (d,H'))(hs:Rep S L w v s)(C:BD B S L w H)
  {p:Af Addr} {m cap:Nat} {vs:Ac Ap} (I:new.length=m*i.size) (q:Au S L w vs new) (hp:(p=none/\m=0/\cap=0)\/∃a,p=some a/\∀(j:Nat) (v:Ap),vs[j]? =some v->w.cell? (a.add j)=some v) (ty:AQ)
  (ak:∀id n A aa cs,s= .hs id n->H[id]? =some (.cells A aa cs)->¬n*i.size<cs.length):
  ∃r w' L',(Builtin.append_ #[t,t] ty #[v,.slice p m cap]).run P w= .ok r w'/\Rep S L' w' r d/\BD B S L' w' H'/\Later B S S L L' w w':=by
 unfold KW at h;split at h
 ·cases h
 ·rename_i hg;have Y:0<i.size:=by omega
  have U:new.all Df=true:=by grind
  have y:vs.length=m*i.size:=by rw[q.length,I]
  have R:=NX q U;have E:new.length/i.size=m:=by simp_all
  split at h
  ·simp only[Rep]at hs;subst hs;split at h
   ·rename_i N;cases h;have hm:m=0:=by
     rw[I]at N;rcases Nat.mul_eq_zero.1 N with N|N
     ·exact N
     ·omega
    subst hm;refine⟨.slice none 0 0,w,L,?_,by simp only[Rep],C,Later.refl⟩;rcases hp with⟨rfl,_,rfl⟩|⟨a,rfl,_⟩<;>simp[Builtin.append_,run_underlying ht,sizeOf,typeInfo,k,Builtin.lenOf,Builtin.firstCells,loadCells,loadCellsFrom]
   ·rename_i N;split at h
    ·rename_i ac;cases h;have hm:0<m:=by grind
     have ab:m<=4000000:=by
      have:m<=new.length:=by rw[I];exact Jks m Y
      omega
     rcases hp with⟨_,rfl,_⟩|⟨a,rfl,f⟩
     ·omega
     ·have g:=run_append_nil (P:=P) w t ty e i z ht k hz a m cap vs y f hm (by omega) (Ig (pZ ab V) (by decide));have J:=grownCap_ge w m 0 e;have M:=grownCap_le_maxLen w m 0 e (by unfold maxLen;omega);have X:=C.new w.drew rfl ((Below.refl _ _).drew) e i.size (grownCap w m 0 e) new (vs.toArray++Builtin.zeroCells z.cells (grownCap w m 0 e-m)) (by
       simp only[L5,SX,size_zeroCells,Z,y,<-Nat.add_mul];congr 1;omega) M (by simp[q.length]) (fun j d F=>by
       have:=Jgi (zs:=Builtin.zeroCells z.cells (grownCap w m 0 e-m)) (Au.nil (S:=S) (L:=L) (w:=w)) q (by simp) U j d (by simpa using F);simpa using this)
      refine⟨_,_,_,g,?_,X.1,X.2⟩;simp only[Rep];refine⟨w.heap.size,grownCap w m 0 e,by rw[<-C.len];simp,by rw[E];exact J,by rw[E]⟩
    ·cases h
  ·rename_i id n;simp only[Rep]at hs;obtain⟨b,c,T,Q,rfl⟩:=hs;split at h
   ·rename_i A aa cs hid;split at h
    ·rename_i hc;obtain⟨rfl,rfl,ag,ac⟩:=hc;cases h;rw[E];obtain⟨arr,g1,g2,g3,g4,g5⟩:=SE C hid T;have aj:cs.all Df=true\/True:= .inr trivial;have af:∀(j:Nat) (d:D),cs[j]? =some d->∃x,arr[j]? =some x/\x.oneCell'=true/\Rep S L w x d:=by
      obtain⟨b',c',ai,k1,k2,k3,k4,k5,k6,k7,k8⟩:=C.live id _ _ cs hid;rw[T]at k1;cases k1;rw[g1]at k4;cases k4;exact k8
     have G:n+m<=4000000:=by
      have h1:(n+m)*i.size<=4000000:=by grind
      exact Ig (Jks _ Y) h1
     rcases hp with⟨rfl,rfl,rfl⟩|⟨a,rfl,f⟩
     ·have K:new=[]:=pS (by simpa using I);subst K;have u:=C.move hid (by intro e;cases e) T;refine⟨.slice (some ⟨b,0,none⟩) n c,w,_,?_,?_,by simpa using u.1,u.2⟩
      ·simp[Builtin.append_,run_underlying ht,sizeOf,typeInfo,k,Builtin.lenOf,Builtin.firstCells,Q,storeCells]
      ·simp only[Rep];exact⟨b,c,by rw[<-C.len];simp,Q,rfl⟩
     ·by_cases l:n+m<=c
      ·have O:n*i.size+vs.length<=arr.size:=by rw[y,g2,<-Nat.add_mul];exact zX _ l
       have g:=run_append_room (P:=P) w t ty A i ht k b n c arr g1 a m cap vs y f R l O;have hw:=C.write hid T (arr.toList.take (n*i.size)++vs++arr.toList.drop (n*i.size+vs.length)).toArray (cs++new) (by grind) (by grind) (by
        intro j d F;by_cases al:j<cs.length
        ·grind
        ·rw[SV (by omega)]at F;obtain⟨x,ah,ad⟩:=q.get _ d F
         grind)
       have u:=hw.1.move (id:=id) (o:= .cells A i.size (cs++new)) (by grind) (by intro e;cases e) T;rw[Nb]at u;refine⟨_,_,_,g,?_,u.1,hw.2.trans u.2⟩;simp only[Rep];exact⟨b,c,by rw[<-C.len];simp,l,rfl⟩
      ·have holds:∀(j:Nat) (v:Ap),(arr.toList.take cs.length)[j]? =some v->w.cell? ((⟨b,0,none⟩:Addr).add j)=some v:=by
        intro j v F;rw[NG,EE,KZ g1];have ae:=(CV.1 F).1;rw[Xw (by simp at ae;omega)]at F;simpa using F
       have W:(arr.toList.take cs.length).length=n*i.size:=by rw[g5.length,ag]
       have g:=run_append_grow (P:=P) w t ty A i z ht k hz ⟨b,0,none⟩ n c (arr.toList.take cs.length) W holds a m cap vs y f (by omega) (by omega) (growslice_fits (by omega) (Ig (pZ G V) (by decide)));have J:=grownCap_ge w (n+m) c A;have M:=grownCap_le_maxLen w (n+m) c A (by unfold maxLen;omega);have X:=(C.kill id).new w.drew rfl ((Below.refl _ _).drew) A i.size (grownCap w (n+m) c A) (cs++new) ((arr.toList.take cs.length).toArray++vs.toArray++Builtin.zeroCells z.cells (grownCap w (n+m) c A-(n+m))) (by
        simp only[L5,SX,size_zeroCells,Z,W,y,<-Nat.add_mul];congr 1;omega) M (by grind) (by
        intro j d F;obtain⟨x,ah,ad⟩:=(g5.append q).get j d F
        grind)
       refine⟨_,_,_,g,?_,X.1,X.2⟩;simp only[Rep];exact⟨w.heap.size,grownCap w (n+m) c A,by rw[<-C.len];simp,J,rfl⟩
    grind
   ·cases h
  ·cases h
def JvM{t e:AQ}{sz:Nat}{s x d:D}{v u:Ap}{H':Ae}(K:WA P t=some (e,sz))(h:D5 e sz s x H=some (d,H'))(hs:Rep S L w v s)(I:Rep S L w u x)(A:BD B S L w H)(C:AQ):
  ∃r y E,(Builtin.append_ #[t,t] C #[v,u]).run P w= .ok r y/\Rep S E y r d/\BD B S E y H'/\Later B S S L E w y:=by
 obtain⟨i,z,ht,b,F,rfl,l,j⟩:=cA K;unfold D5 at h;obtain⟨new,c,h⟩:=Bi.1 h;obtain⟨p,m,cap,vs,rfl,o,g,hp⟩:=PF c I A;by_cases k:∃id n f a cs,s= .hs id n/\H[id]? =some (.cells f a cs)/\n*i.size<cs.length
 ·obtain⟨id,n,f,a,cs,rfl,hid,G⟩:=k;have q:=(CV.1 hid).1;have N:(cs.take (n*i.size)).length=n*i.size:=by grind
  have J:KW e i.size (.hs id n) new (H.set id (.cells f a (cs.take (n*i.size))))=some (d,H'):=by
   rw[<-h];unfold KW;split
   ·rfl
   ·simp only[hid,Hw q,N,Nb,Za]
    grind
  refine Jbc ht b F l j J hs (A.less hid _) o g hp C ?_
  grind
 ·exact Jbc ht b F l j h hs A o g hp C fun id n f a cs M Q O=>k ⟨id,n,f,a,cs,M,Q,O⟩
end
end Go.Proofs.YtapdelkomkpgmaaGreatDoor
