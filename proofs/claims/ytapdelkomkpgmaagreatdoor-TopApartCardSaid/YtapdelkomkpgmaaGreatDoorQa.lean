import Derived.WalkKit
import Derived.Lib.Hide
import Derived.Deep.Draws
namespace Go.Proofs.YtapdelkomkpgmaaGreatDoor
open Go.RowKit
set_option maxRecDepth 100000
set_option linter.all false
abbrev Ac:=List
abbrev Af:=Option
abbrev Aj:=Program
def Am:=@if_neg
abbrev Ap:=Value
def Aw:=@if_pos
abbrev AA:=World
abbrev AQ:=TypeId
def Bi:=@Option.bind_eq_some_iff
def Bv:=@if_true
def BC:=@if_false
def BF:=@Bool.false_eq_true
def BQ:=@Nat.le_refl
def BR:=@Option.bind_some
def CE:=@Option.some.injEq
abbrev CG:=FuncId
def CV:=@List.getElem?_eq_some_iff
abbrev CX:=Array
def CZ:=@decide_eq_true
def Dc:=@decide_eq_false
def Dt:=@Option.map_some
def DC:=@List.length_append
def DJ:=@Bool.and_eq_true
def DV:=@Option.map_eq_some_iff
def Ed:=@List.getD_eq_getElem?_getD
def Ee:=@List.getElem?_set_ne
def Ej:=@List.length_cons
def Ew:=@List.all_eq_true
def EE:=@Nat.zero_add
def EP:=@List.map_cons
def Fq:=@Int.eq_ofNat_of_zero_le
def FQ:=@List.getElem?_eq_getElem
def FV:=@List.append_assoc
def FY:=@List.mem_cons
def FZ:=@List.mapM_cons
def F5:=@decide_eq_true_eq
def F9:=@Nat.zero_le
def GN:=@List.mem_map
def Hf:=@List.length_nil
def Hu:=@Prod.mk.injEq
def Hw:=@List.getElem?_set_self
def Ig:=@Nat.le_trans
def Ih:=@List.getElem_mem
def Ii:=@List.getElem?_append_left
def Ij:=@List.take_succ_eq_append_getElem
def II:=@List.take_length
def IX:=@List.flatten_cons
def IY:=@Array.getElem?_eq_some_iff
def Jd:=@List.cons_append
def Ju:=@List.length_map
def JE:=@List.map_append
def JO:=@List.nil_append
def J7:=@List.map_nil
def KE:=@List.mem_cons_self
def Lj:=@List.append_nil
def L8:=@of_decide_eq_true
def MX:=@Bool.not_true
def MZ:=@Nat.add_zero
def Na:=@List.all_cons
def Nb:=@List.set_set
def NJ:=@List.getD_cons_succ
def NK:=@List.length_eq_zero_iff
def NL:=@Int.toNat_natCast
def NM:=@List.getD_cons_zero
def Oh:=@List.length_singleton
def OM:=@Nat.lt_of_lt_of_le
def OO:=@Nat.eq_of_beq_eq_true
def OQ:=@List.mem_append
def PT:=@List.flatten_nil
def PU:=@List.ext_getElem?
def QW:=@List.drop_eq_getElem_cons
def QX:=@List.take_succ_cons
def QY:=@List.mem_cons_of_mem
def QZ:=@List.not_mem_nil
def Q3:=@List.cons.injEq
def Q4:=@List.take_of_length_le
def SQ:=@Nat.mul_comm
def SS:=@Nat.mod_lt
def SV:=@List.getElem?_append_right
def SX:=@List.size_toArray
def SY:=@List.map_congr_left
def S9:=@World.size_alloc
abbrev Tc:=ByteArray
def UB:=@List.drop_zero
def UC:=@List.getElem?_eq_none
def VI:=@List.mapM_nil
def Xw:=@List.getElem?_take_of_lt
def Xx:=@List.flatten_append
def Xy:=@List.getElem?_map
def Y9:=@Option.isSome_iff_exists
def Za:=@List.length_set
def Zb:=@Option.bind_eq_bind
def Zc:=@Array.getElem?_toList
def Zd:=@List.take_append_drop
def Ze:=@Nat.mul_one
def Zf:=@Array.replicate_succ
def Zg:=@Array.replicate_zero
def Zh:=@List.push_toArray
def Zi:=@List.append_toArray
def Zj:=@List.set_cons_zero
def eF:=@List.prefix_refl
def eG:=@List.length_take
def eP:=@Array.length_toList
def eQ:=@Option.pure_def
def eU:=@List.flatMap_append
def eX:=@List.all_nil
def oQ:=@List.pairwise_cons
def oU:=@List.mem_iff_getElem
def oV:=@List.mem_singleton
def oW:=@Nat.sub_self
def oZ:=@List.mem_range
def pF:=@List.take_zero
def pG:=@Bool.and_self
def pI:=@List.getElem?_range
def pJ:=@List.drop_succ_cons
def pK:=@List.drop_left'
def pM:=@List.getElem?_drop
def pO:=@Decidable.not_not
def pR:=@and_true
def pU:=@true_and
def zM:=@List.flatMap_cons
def zN:=@Bool.or_eq_true
def zO:=@List.getElem?_cons_zero
def zQ:=@Nat.succ_mul
def zS:=@Option.getD_some
def zT:=@Bool.not_false
def zU:=@Bool.not_eq_true'
def zV:=@List.mem_flatMap
def zW:=@List.prefix_append
def zX:=@Nat.mul_le_mul_right
def zY:=@List.map_set
def zZ:=@List.mem_of_getElem?
def Ab:=@Int.le_refl
def Al:=@Array.ext'
def Ao:=@Bool.not_eq_false'
def Av:=@List.mem_zipIdx_iff_getElem?
def Ax:=@List.take_left'
def Ay:=@List.set_eq_take_append_cons_drop
def AD:=@beq_eq_false_iff_ne
def LR:=@List.drop_of_length_le
def LT:=@List.foldl_cons
def L5:=@Array.size_append
def L7:=@List.mem_filterMap
def Ma:=@List.nodup_cons
def Mb:=@List.mem_filter
def Mf:=@List.map_drop
def Mg:=@Nat.lt_of_le_of_lt
def Mh:=@List.drop_length
def pP:=@List.range_succ
def pQ:=@List.mem_iff_getElem?
def pS:=@List.eq_nil_of_length_eq_zero
def pT:=@List.getElem_map
def pZ:=@Nat.mul_le_mul
def qD:=@List.mem_of_mem_take
def qS:=@Nat.mod_eq_of_lt
def rA:=@Array.getD_eq_getD_getElem?
def rB:=@Nat.lt_irrefl
def rI:=@Bool.eq_iff_iff
def rK:=@List.drop_eq_nil_of_le
def rL:=@List.length_replicate
def rN:=@List.getElem?_concat_length
def rR:=@List.drop_take
def rS:=@Int.mul_nonneg
def rT:=@Int.fdiv_eq_ediv_of_nonneg
def sA:=@Nat.xor_lt_two_pow
def sB:=@Nat.div_le_self
def sC:=@List.getElem?_eq_none_iff
def sE:=@List.mem_or_eq_of_mem_set
def sI:=@Int.lt_trichotomy
def sL:=@List.pairwise_map
def Jks:=@Nat.le_mul_of_pos_right
def Jkt:=@List.singleton_append
def Jku:=@Array.getElem?_eq_getElem
def Jkv:=@List.range_eq_range'
def Jkw:=@List.getElem?_cons_succ
def Jkx:=@List.getElem_of_mem
def Jky:=@Nat.and_two_pow_sub_one_eq_mod
def Jkz:=@List.set_append_right
def Jk0:=@List.length_filter_le
def Jk1:=@List.filter_append
def Jk2:=@World.cell?_alloc_at
def Jk3:=@List.pairwise_append
def Qfw:=@List.length_filter_lt_length_iff_exists
abbrev Nd:=Int×Int
def EF(t n:Int):Int×Int:=
 if t=2 then(1,0)else if t=3 then(11,0)else if t=4\/t=21 then(11,1)else if t=22 then(11,2)
 else if t=5\/t=6\/t=25 then(0,1)else if t=24 then(0,2)else if t=20 then(200,n)else if t=23 then(0,3)else if t=26 then(0,0)
 else if 7<=t/\t<=19 then(0,2)else(-1,-1)
def ar(x:Nd):Int:=if x.1=1 then 0 else if x.2<0\/(EF x.1 x.2).1<x.2 then-1 else(EF x.1 x.2).2
def Jwi(t n:Int):EF t n=(200,n)\/(-1<=(EF t n).2/\(EF t n).2<=3):=by
 unfold EF
 repeat' split
 all_goals simp
def oC(x:Nd): -1<=ar x/\ar x<=200:=by
 obtain⟨t,n⟩:=x;unfold ar;have h:=Jwi t n;simp only[];split
 ·omega
 ·split
  ·omega
  ·rcases h with h|h
   ·rename_i a;rw[h]at a⊢;simp only[]at a⊢;omega
   ·omega
def JZ{k:IntKind}{a b:Int}(h:a=b):Ending.returned (.int k a)= .returned (.int k b):=by rw[h]
def Sy{a b c d:Int}(h:(a,b)=(c,d)):Ending.returned (.tuple #[.int .i64 a,.int .i64 b])= .returned (.tuple #[.int .i64 c,.int .i64 d]):=by
 cases h;rfl
def NZ(w:AA)(o:Obj):Below w.heap.size w (w.alloc o):=(Below.refl _ _).alloc (BQ _) _
structure Kept(S:Nat->Prop)(w w':World):Prop where
 size:w.heap.size<=w'.heap.size
 block:∀k,S k->w'.heap[k]? =w.heap[k]?
def Kept.refl(S:Nat->Prop)(w:AA):Kept S w w:=⟨BQ _,fun _ _=>rfl⟩
def Kept.trans{S:Nat->Prop}{a b c:AA}(h:Kept S a b)(k:Kept S b c):Kept S a c:=⟨Ig h.size k.size,fun i d=>(k.block i d).trans (h.block i d)⟩
def Kept.mono{S c:Nat->Prop}{a b:AA}(h:Kept S a b)(hs:∀k,c k->S k):Kept c a b:=⟨h.size,fun i d=>h.block i (hs i d)⟩
def Kept.cell{S:Nat->Prop}{w a:AA}(h:Kept S w a){p:Addr}(hp:S p.block):a.cell? p=w.cell? p:=World.cell?_of_block (w:=w) (h.block p.block hp)
def Kept.frozen{S:Nat->Prop}{w a:AA}(h:Kept S w a){p:Addr}(hp:S p.block):a.frozen? p=w.frozen? p:=World.frozen?_of_block (w:=w) (h.block p.block hp)
def gX{B:Nat}{w a:AA}(h:Below B w a):Kept (· <B) w a:=⟨h.size,h.block⟩
def Tq{B:Nat}{S:Nat->Prop}{w a:AA}(h:Below B w a)(hs:∀k,S k->k<B):Kept S w a:=(gX h).mono hs
def Jlb{S:Nat->Prop}{a w:AA}(h:Kept S a w){p:Addr}(hp:¬S p.block)(u:Ap):Kept S a (w.setCell p u):=
 h.trans ⟨by simp[World.setCell],fun k b=>Below.heap_setCell _ _ _ _ (fun e=>hp (e▸b))⟩
def Qcb{S:Nat->Prop}{a w:AA}(h:Kept S a w)(hs:∀k,S k->k<w.heap.size)(o:Obj):Kept S a (w.alloc o):=
 h.trans ⟨by simp,fun k b=>Below.heap_alloc _ _ _ (hs k b)⟩
def tA{S:Nat->Prop}{a w:AA}(h:Kept S a w):Kept S a w.drew:=⟨h.size,h.block⟩
def JqQ{S:Nat->Prop}{a w c:AA}{row:Af Nat}(h:Kept S a w)(b:w.grownBy c row)(hs:∀k,S k->k<w.heap.size)(f:∀k,row=some k->¬S k):Kept S a c:=
 h.trans ⟨b.size,fun k d=>b.block k (hs k d) (fun e=>f k e.symm d)⟩
def Gp(S:Nat->Prop)(w:AA)(v:Ap)(n:Nat)(xs:Ac Ap):Prop:=
 (∃(p:Af Addr) (cap:Nat),v= .slice p 0 cap/\n=0/\xs=[]/\(p=none->cap=0))\/
 ∃(b o cap:Nat),v= .slice (some ⟨b,o,none⟩) n cap/\0<n/\n<=cap/\S b/\∀j,j<xs.length->w.cell? ⟨b,o+j,none⟩=xs[j]?
def Gp.kept{S:Nat->Prop}{w c:AA}{v:Ap}{n:Nat}{xs:Ac Ap}(h:Gp S w v n xs)(i:Kept S w c):Gp S c v n xs:=by
 rcases h with h|⟨b,o,cap,g,f,d,a,k⟩
 ·exact .inl h
 ·exact .inr ⟨b,o,cap,g,f,d,a,fun j e=>(i.cell (p:=⟨b,o+j,none⟩) a).trans (k j e)⟩
def Gp.mono{S a:Nat->Prop}{w:AA}{v:Ap}{n:Nat}{xs:Ac Ap}(h:Gp S w v n xs)(hs:∀k,S k->a k):Gp a w v n xs:=by
 rcases h with h|⟨b,o,cap,f,e,c,d,g⟩
 ·exact .inl h
 ·exact .inr ⟨b,o,cap,f,e,c,hs _ d,g⟩
def Gz(l:Ac Nd):Ac Ap:=l.flatMap fun x=>[.int .i64 x.1,.int .i64 x.2]
def IntsIn(S:Nat->Prop)(w:AA)(v:Ap)(l:Ac Int):Prop:=Gp S w v l.length (l.map (Value.int .i64))
def E8(S:Nat->Prop)(w:AA)(v:Ap)(l:Ac Nd):Prop:=Gp S w v l.length (Gz l)
abbrev Uc(w:AA)(v:Ap)(l:Ac Int):Prop:=IntsIn (· <w.heap.size) w v l
abbrev Ip(w:AA)(v:Ap)(l:Ac Nd):Prop:=E8 (· <w.heap.size) w v l
def IntsIn.kept{S:Nat->Prop}{w a:AA}{v:Ap}{l:Ac Int}(h:IntsIn S w v l)(b:Kept S w a):IntsIn S a v l:=Gp.kept h b
def E8.kept{S:Nat->Prop}{w a:AA}{v:Ap}{l:Ac Nd}(h:E8 S w v l)(b:Kept S w a):E8 S a v l:=Gp.kept h b
def IntsIn.mono{S a:Nat->Prop}{w:AA}{v:Ap}{l:Ac Int}(h:IntsIn S w v l)(hs:∀k,S k->a k):IntsIn a w v l:=Gp.mono h hs
def E8.mono{S a:Nat->Prop}{w:AA}{v:Ap}{l:Ac Nd}(h:E8 S w v l)(hs:∀k,S k->a k):E8 a w v l:=Gp.mono h hs
def IntsIn.below{w a:AA}{v:Ap}{l:Ac Int}(h:Uc w v l)(b:Below w.heap.size w a):Uc a v l:=
 (IntsIn.kept h (gX b)).mono fun _ c=>OM c b.size
def E8.below{w a:AA}{v:Ap}{l:Ac Nd}(h:Ip w v l)(b:Below w.heap.size w a):Ip a v l:=
 (E8.kept h (gX b)).mono fun _ c=>OM c b.size
def Wi(l:Ac Nd):(Gz l).length=2*l.length:=by
 induction l with
 |nil=>rfl
 |cons x r a=>simp only[Gz,zM,DC,Ej,Hf]at a⊢;omega
def fX(l:Ac Nd)(i:Nat)(h:i<l.length):(Gz l)[2*i]? =some (.int .i64 l[i].1):=by
 induction l generalizing i with
 |nil=>simp at h
 |cons x r a=>
  cases i with
  |zero=>rfl
  |succ i=>
   have:=a i (by simpa using h);simp only[Gz,zM]at this⊢
   grind
def SD(l:Ac Nd)(i:Nat)(h:i<l.length):(Gz l)[2*i+1]? =some (.int .i64 l[i].2):=by
 induction l generalizing i with
 |nil=>simp at h
 |cons x r a=>
  cases i with
  |zero=>rfl
  |succ i=>
   have:=a i (by simpa using h);simp only[Gz,zM]at this⊢
   grind
def IntsIn.open{S:Nat->Prop}{w:AA}{v:Ap}{l:Ac Int}(h:IntsIn S w v l):
  (l=[]/\∃(p:Af Addr) (cap:Nat),v= .slice p 0 cap)\/
  ∃(b o cap:Nat),v= .slice (some ⟨b,o,none⟩) l.length cap/\0<l.length/\l.length<=cap/\S b/\∀j (e:j<l.length),w.cell? ⟨b,o+j,none⟩=some (.int .i64 l[j]):=by
 rcases h with⟨p,cap,c,a,_⟩|⟨b,o,cap,c,a,d,f,g⟩
 ·grind
 grind
def E8.open{S:Nat->Prop}{w:AA}{v:Ap}{l:Ac Nd}(h:E8 S w v l):
  (l=[]/\∃(p:Af Addr) (cap:Nat),v= .slice p 0 cap)\/
  ∃(b o cap:Nat),v= .slice (some ⟨b,o,none⟩) l.length cap/\0<l.length/\l.length<=cap/\S b/\
   ∀j (a:j<l.length),w.cell? ⟨b,o+j*2,none⟩=some (.int .i64 l[j].1)/\w.cell? ⟨b,o+j*2+1,none⟩=some (.int .i64 l[j].2):=by
 rcases h with⟨p,cap,d,c,_⟩|⟨b,o,cap,d,c,f,g,e⟩
 ·grind
 ·refine .inr ⟨b,o,cap,d,c,f,g,fun j a=>⟨?_,?_⟩⟩
  ·rw[SQ];exact(e (2*j) (by rw[Wi];omega)).trans (fX l j a)
  ·rw[SQ,Nat.add_assoc];exact(e (2*j+1) (by rw[Wi];omega)).trans (SD l j a)
def E8.slice{S:Nat->Prop}{w:AA}{v:Ap}{l:Ac Nd}(h:E8 S w v l):∃(p:Af Addr) (cap:Nat),v= .slice p l.length cap:=by
 rcases h.open with⟨rfl,p,cap,rfl⟩|⟨b,o,cap,rfl,_⟩<;>exact⟨_,_,rfl⟩
def IntsIn.slice{S:Nat->Prop}{w:AA}{v:Ap}{l:Ac Int}(h:IntsIn S w v l):∃(p:Af Addr) (cap:Nat),v= .slice p l.length cap:=by
 rcases h.open with⟨rfl,p,cap,rfl⟩|⟨b,o,cap,rfl,_⟩<;>exact⟨_,_,rfl⟩
def NF{B:Nat}{a w:AA}(h:Below B a w)(n:Nat):Below B a (w.drewN n):=⟨h.os,h.tape,h.output,h.size,h.block⟩
def Jxy{W a:AA}(c:Below W.heap.size W a):
  (∀b o,b<W.heap.size->a.cell? ⟨b,o,none⟩=W.cell? ⟨b,o,none⟩)/\(∀b o,b<W.heap.size->a.frozen? ⟨b,o,none⟩=W.frozen? ⟨b,o,none⟩):=
 ⟨fun b o h=>c.cell (p:=⟨b,o,none⟩) h,fun b o h=>c.frozen (p:=⟨b,o,none⟩) h⟩
def Jgy:Ac Nd->Nat->Af Nat
 |_,0=>some 0
 |[],_+1=>none
 |x::r,k+1=>if ar x<0 then none else(Jgy r (k+(ar x).toNat)).map (· +1)
def EX(k:Nat)(l:Ac Nd):Af Nat:=Jgy l k
def DK(k:Int):Af Nat->Int
 |some c=>k+c
 |none=> -1
def Bc(l:Ac Nd)(i:Int):Int:=if i<0 then-1 else DK i (EX 1 (l.drop i.toNat))
def RQ(l:Ac Nd):EX 0 l=some 0:=by cases l<;>rfl
def ZZ(m:Nat)(h:0<m):EX m []=none:=by
 cases m with
 |zero=>omega
 |succ m=>rfl
def O6(m:Nat)(x:Nd)(r:Ac Nd):EX (m+1) (x::r)=if ar x<0 then none else(EX (m+(ar x).toNat) r).map (· +1):=rfl
def QaQ(k:Int)(o:Af Nat):DK k (o.map (· +1))=DK (k+1) o:=by
 cases o with
 |none=>rfl
 |some c=>simp only[Dt,DK];omega
def Cu(l:Ac Nd)(k:Nat)(t:Int)(ht:1<=t)(h:l.length<=k):DK k (EX t.toNat (l.drop k))= -1:=by
 rw[LR h,ZZ _ (by omega)];rfl
def gR(l:Ac Nd)(k:Nat)(t:Int)(ht:1<=t)(h:k<l.length):
  DK k (EX t.toNat (l.drop k))=if ar l[k]<0 then-1 else DK (k+1) (EX (t+(ar l[k]-1)).toNat (l.drop (k+1))):=by
 obtain⟨m,rfl⟩:∃m:Nat,t=m+1:=⟨(t-1).toNat,by omega⟩;rw[QW h,show((m:Int)+1).toNat=m+1 from by omega,O6];by_cases a:ar l[k]<0
 ·rw[Aw a,Aw a];rfl
 ·rw[Am a,Am a,QaQ,show m+(ar l[k]).toNat=((m:Int)+1+(ar l[k]-1)).toNat from by omega]
def kO(l:Ac Nd)(k:Nat)(t:Int)(ht:1<=t)(h:k<l.length)(a:ar l[k]<0):DK k (EX t.toNat (l.drop k))= -1:=by
 rw[gR l k t ht h,Aw a]
def Jcb(l:Ac Nd)(k:Nat)(t:Int)(ht:1<=t)(h:k<l.length)(a:0<=ar l[k]):
  DK k (EX t.toNat (l.drop k))=DK ((k+1:Nat):Int) (EX (t+(ar l[k]-1)).toNat (l.drop (k+1))):=by
 rw[gR l k t ht h,Am (by omega)];rfl
def JjB(l:Ac Nd)(k:Nat)(t:Int)(ht:1<=t)(h:k<l.length)(a:0<=ar l[k])(b:t+(ar l[k]-1)<=0):
  DK k (EX t.toNat (l.drop k))=k+1:=by
 rw[gR l k t ht h,Am (by omega),show(t+(ar l[k]-1)).toNat=0 from by omega,RQ];simp[DK]
def Mw(l:Ac Nd)(i:Int)(h:i<0):Bc l i= -1:=by rw[Bc,Aw h]
def iU(l:Ac Nd)(k:Nat):Bc l k=DK k (EX (1:Int).toNat (l.drop k)):=by rfl
def Fz(l:Ac Nd)(k:Int):Nat->Int
 |0=>k
 |c+1=>Bc l (Fz l k c)
def Fv(l:Ac Nd)(i:Int):Int:=match l[i.toNat]? with|some x=>ar x|none=>0
def AZ(l:Ac Nd)(i:Int):Ac Int:=if Bc l i<0 then[]else(List.range (Fv l i).toNat).map (Fz l (i+1))
def F6(l:Ac Nd)(i:Int)(h:0<=Bc l i):0<=i/\i.toNat<l.length:=by
 by_cases b:i<0
 ·rw[Mw l i b]at h;omega
 ·refine⟨by omega,Nat.lt_of_not_le fun a=> ?_⟩;obtain⟨k,rfl⟩:=Fq (Int.not_lt.1 b);rw[iU,Cu l k 1 (by omega) (by simpa using a)]at h;omega
def XN(l:Ac Nd)(k:Nat)(h:k<l.length):Fv l k=ar l[k]:=by simp[Fv,h]
def Jbm(l:Ac Nd)(i:Int): -1<=Fv l i/\Fv l i<=200:=by
 unfold Fv;split
 ·exact oC _
 ·omega
def KJ{α:Type}(f:Nat->α)(c:Nat):Ac α:=(List.range c).map f
def Dd{α:Type}(f:Nat->α)(c:Nat):KJ f (c+1)=KJ f c++[f c]:=by simp[KJ,pP]
def mV{α:Type}(f:Nat->α)(c:Nat):(KJ f c).length=c:=by simp[KJ]
def jG(l:Ac Nd)(i:Int)(h:0<=Bc l i):AZ l i=KJ (Fz l (i+1)) (Fv l i).toNat:=by rw[AZ,Am (by omega)];rfl
def AK(l:Ac Nd)(i:Int)(h:Bc l i<0):AZ l i=[]:=by rw[AZ,Aw h]
def XG(l:Ac Nd)(i:Int):Bc l i= -1\/0<=Bc l i:=by
 by_cases a:i<0
 ·exact .inl (Mw l i a)
 ·rw[Bc,Am a];cases EX 1 (l.drop i.toNat)with
  |none=>exact .inl rfl
  |some c=>right;simp only[DK];omega
def gU(l:Ac Nd)(i:Int)(h:0<=Bc l i):0<=Fv l i:=by
 obtain⟨c,d⟩:=F6 l i h;obtain⟨k,rfl⟩:=Fq c;have a:k<l.length:=by simpa using d
 rw[XN l k a];by_cases b:ar l[k]<0
 ·rw[iU,kO l k 1 (by omega) a b]at h;omega
 ·omega
def Bj(l:Ac Nd)(i:Int):Nd:=l.getD i.toNat (0,0)
inductive Lv where
 |normal
 |exit (id:Nat)
 |ret
 |goto (l:Nat)
 |pan (x:Value)
def Lv.toExit:Lv->Exit
 | .normal=> .normal
 | .exit id=> .exit id
 | .ret=> .ret
 | .goto l=> .goto l
 | .pan x=> .panic [{v:=x,recovered:=false}]
inductive D where
 |undef
 |v (x:Value)
 |sl (sz:Nat) (els:List (List D))
 |ptr (cs:List D)
 |agg (cs:List D)
 |tup (ds:List D)
 |hp (id off:Nat)
 |hs (id n:Nat)
 |ifc (t:TypeId) (d:D)
 |clo (f:Fn) (first caps:List D)
 |mp (id:Nat)
 |mv (ks:List Int) (vs:List D)
 |yld (id:Nat)
 |ht (id off n:Nat)
 deriving Inhabited
abbrev Aq:D:= .v (.slice none 0 0)
abbrev wZ:D:= .v (.int .u32 0)
abbrev yZ:D:= .v (.int .u8 0)
abbrev BI:D:= .v .nilFunc
abbrev CS:D:= .v (.string ⟨#[]⟩)
abbrev Ic:D:= .v (.pointer none)
abbrev gD(s:Ac D)(n:Nat):D:=s.getD n .undef
section
variable (S : Nat → Prop)
mutual
def Rep(L:Ac (Nat×Nat))(w:AA)(x:Ap):D->Prop
 | .undef=>True
 | .v y=>x=y
 | .sl sz els=>(els=[]/\∃(p:Af Addr) (cap:Nat),x= .slice p 0 cap/\(p=none->cap=0))\/
  ∃(b o cap:Nat),x= .slice (some ⟨b,o,none⟩) els.length cap/\0<els.length/\els.length<=cap/\S b/\EM [] w b o sz els
 | .ptr cs=>∃(b o:Nat),x= .pointer (some ⟨b,o,none⟩)/\S b/\Eg [] w b o cs
 | .agg cs=>∃xs:Ac Ap,x= .agg xs.toArray/\Au L w xs cs
 | .tup ds=>∃xs:Ac Ap,x= .tuple xs.toArray/\Au L w xs ds
 | .hp id off=>∃b c,L[id]? =some (b,c)/\x= .pointer (some ⟨b,off,none⟩)
 | .hs id n=>∃b c,L[id]? =some (b,c)/\n<=c/\x= .slice (some ⟨b,0,none⟩) n c
 | .ifc t d=>∃y,x= .iface t y/\Rep L w y d
 | .clo f fs cs=>∃ys zs:Ac Ap,x= .func f ys.toArray zs.toArray/\Au L w ys fs/\Au L w zs cs
 | .mp id=>∃b c,L[id]? =some (b,c)/\x= .map (some b)
 | .yld id=>∃b c,L[id]? =some (b,c)/\x= .func (.yield b) #[] #[]
 | .ht id off n=>∃b c o cap,L[id]? =some (b,c)/\x= .slice (some ⟨b,o,none⟩) n cap/\n<=cap/\(0<n->o=off)
 | .mv ks vs=>∃(b:Nat) (arr:CX MapEntry) (clk:Nat),x= .map (some b)/\S b/\w.heap[b]? =some (.map arr clk)/\arr.toList.map (·.key)=ks.map (Value.int .i64)/\Au [] w (arr.toList.map (·.val)) vs
def Au(L:Ac (Nat×Nat))(w:AA)(xs:Ac Ap):Ac D->Prop
 |[]=>xs=[]
 |d::r=>∃x ys,xs=x::ys/\Rep L w x d/\Au L w ys r
def Eg(L:Ac (Nat×Nat))(w:AA)(b o:Nat):Ac D->Prop
 |[]=>True
 |d::r=>(∃x,w.cell? ⟨b,o,none⟩=some x/\Rep L w x d)/\Eg L w b (o+1) r
def EM(L:Ac (Nat×Nat))(w:AA)(b o sz:Nat):Ac (Ac D)->Prop
 |[]=>True
 |e::r=>e.length=sz/\Eg L w b o e/\EM L w b (o+sz) sz r
end
end
section
variable {S S' : Nat → Prop} {w w' : AA}
mutual
theorem Rep.kept(hk:Kept S w w')(hs:∀k,S k->S' k){L L':Ac (Nat×Nat)}(hL:∀(i:Nat) (p:Nat×Nat),L[i]? =some p->L'[i]? =some p):∀(d:D) (x:Ap),Rep S L w x d->Rep S' L' w' x d
 | .undef,x,h=>by simp only[Rep]
 | .v y,x,h=>by simpa only[Rep]using h
 | .sl sz els,x,h=>by
  simp only[Rep]at h⊢;rcases h with h|⟨b,o,cap,h1,h2,h3,h4,h5⟩
  ·exact .inl h
  ·exact .inr ⟨b,o,cap,h1,h2,h3,hs _ h4,EM.kept hk hs (fun i p hi=>by simp at hi) els b o sz h4 h5⟩
 | .ptr cs,x,h=>by
  simp only[Rep]at h⊢;obtain⟨b,o,h1,h2,h3⟩:=h;exact⟨b,o,h1,hs _ h2,Eg.kept hk hs (fun i p hi=>by simp at hi) cs b o h2 h3⟩
 | .agg cs,x,h=>by
  simp only[Rep]at h⊢;obtain⟨xs,h1,h2⟩:=h;exact⟨xs,h1,Au.kept hk hs hL cs xs h2⟩
 | .tup ds,x,h=>by
  simp only[Rep]at h⊢;obtain⟨xs,h1,h2⟩:=h;exact⟨xs,h1,Au.kept hk hs hL ds xs h2⟩
 | .hp id off,x,h=>by
  simp only[Rep]at h⊢
  grind
 | .hs id n,x,h=>by
  simp only[Rep]at h⊢
  grind
 | .ifc t d,x,h=>by
  simp only[Rep]at h⊢;obtain⟨y,h1,h2⟩:=h;exact⟨y,h1,Rep.kept hk hs hL d y h2⟩
 | .clo f fs cs,x,h=>by
  simp only[Rep]at h⊢;obtain⟨ys,zs,h1,h2,h3⟩:=h;exact⟨ys,zs,h1,Au.kept hk hs hL fs ys h2,Au.kept hk hs hL cs zs h3⟩
 | .mp id,x,h=>by
  simp only[Rep]at h⊢
  grind
 | .ht id off n,x,h=>by
  simp only[Rep]at h⊢
  grind
 | .yld id,x,h=>by
  simp only[Rep]at h⊢
  grind
 | .mv ks vs,x,h=>by
  simp only[Rep]at h⊢;obtain⟨b,arr,clk,h1,h2,h3,h4,h5⟩:=h;exact⟨b,arr,clk,h1,hs _ h2,(hk.block b h2).trans h3,h4,Au.kept hk hs (fun i p hi=>by simp at hi) vs _ h5⟩
theorem Au.kept(hk:Kept S w w')(hs:∀k,S k->S' k){L L':Ac (Nat×Nat)}(hL:∀(i:Nat) (p:Nat×Nat),L[i]? =some p->L'[i]? =some p):∀(ds:Ac D) (xs:Ac Ap),Au S L w xs ds->Au S' L' w' xs ds
 |[],xs,h=>by simpa only[Au]using h
 |d::r,xs,h=>by
  simp only[Au]at h⊢;obtain⟨x,ys,h1,h2,h3⟩:=h;exact⟨x,ys,h1,Rep.kept hk hs hL d x h2,Au.kept hk hs hL r ys h3⟩
theorem Eg.kept(hk:Kept S w w')(hs:∀k,S k->S' k){L L':Ac (Nat×Nat)}(hL:∀(i:Nat) (p:Nat×Nat),L[i]? =some p->L'[i]? =some p):∀(cs:Ac D) (b o:Nat),S b->Eg S L w b o cs->Eg S' L' w' b o cs
 |[],b,o,hb,h=>by simp only[Eg]
 |d::r,b,o,hb,h=>by
  simp only[Eg]at h⊢;obtain⟨⟨x,h1,h2⟩,h3⟩:=h;exact⟨⟨x,(hk.cell (p:=⟨b,o,none⟩) hb).trans h1,Rep.kept hk hs hL d x h2⟩,Eg.kept hk hs hL r b (o+1) hb h3⟩
theorem EM.kept(hk:Kept S w w')(hs:∀k,S k->S' k){L L':Ac (Nat×Nat)}(hL:∀(i:Nat) (p:Nat×Nat),L[i]? =some p->L'[i]? =some p):∀(els:Ac (Ac D)) (b o sz:Nat),S b->EM S L w b o sz els->EM S' L' w' b o sz els
 |[],b,o,sz,hb,h=>by simp only[EM]
 |e::r,b,o,sz,hb,h=>by
  simp only[EM]at h⊢;exact⟨h.1,Eg.kept hk hs hL e b o hb h.2.1,EM.kept hk hs hL r b (o+sz) sz hb h.2.2⟩
end
end
section
variable {S : Nat → Prop} {L : Ac (Nat × Nat)} {w : AA}
def Au.length{xs:Ac Ap}{ds:Ac D}(h:Au S L w xs ds):xs.length=ds.length:=by
 induction ds generalizing xs with
 |nil=>simp only[Au]at h;subst h;rfl
 |cons d r a=>simp only[Au]at h;grind
def Au.get{xs:Ac Ap}{ds:Ac D}(h:Au S L w xs ds)(i:Nat)(d:D)(a:ds[i]? =some d):∃x,xs[i]? =some x/\Rep S L w x d:=by
 induction ds generalizing xs i with
 |nil=>simp at a
 |cons e r b=>
  simp only[Au]at h
  grind
def Au.take{xs:Ac Ap}{ds:Ac D}(h:Au S L w xs ds)(n:Nat):Au S L w (xs.take n) (ds.take n):=by
 induction ds generalizing xs n with
 |nil=>simp only[Au]at h;subst h;simp[Au]
 |cons d r b=>
  cases n with
  |zero=>simp[Au]
  |succ n=>
   simp only[Au]at h;obtain⟨x,e,rfl,c,a⟩:=h;simp only[QX,Au]
   grind
def Au.drop{xs:Ac Ap}{ds:Ac D}(h:Au S L w xs ds)(n:Nat):Au S L w (xs.drop n) (ds.drop n):=by
 induction ds generalizing xs n with
 |nil=>simp only[Au]at h;subst h;simp[Au]
 |cons d r a=>
  cases n with
  |zero=>simpa using h
  |succ n=>
   simp only[Au]at h
   grind
def Au.append{xs a:Ac Ap}{ds b:Ac D}(h:Au S L w xs ds)(k:Au S L w a b):Au S L w (xs++a) (ds++b):=by
 induction ds generalizing xs with
 |nil=>simp only[Au]at h;subst h;simpa using k
 |cons d r e=>
  simp only[Au]at h;obtain⟨x,zs,rfl,f,c⟩:=h;simp only[Jd,Au]
  grind
def Au.cons{x:Ap}{xs:Ac Ap}{d:D}{ds:Ac D}(h:Rep S L w x d)(k:Au S L w xs ds):Au S L w (x::xs) (d::ds):=by
 simp only[Au];grind
def Au.nil:Au S L w [] []:=by simp only[Au]
def Au.set{xs:Ac Ap}{ds:Ac D}(h:Au S L w xs ds)(i:Nat){x:Ap}{d:D}(b:Rep S L w x d):Au S L w (xs.set i x) (ds.set i d):=by
 induction ds generalizing xs i with
 |nil=>simp only[Au]at h;subst h;simp[Au]
 |cons e r c=>
  simp only[Au]at h;obtain⟨y,g,rfl,f,a⟩:=h;cases i with
  |zero=>exact Au.cons b a
  |succ i=>exact Au.cons f (c a i)
def Eg.get{b o:Nat}{cs:Ac D}(h:Eg S L w b o cs)(i:Nat)(d:D)(a:cs[i]? =some d):∃x,w.cell? ⟨b,o+i,none⟩=some x/\Rep S L w x d:=by
 induction cs generalizing o i with
 |nil=>simp at a
 |cons e r c=>
  simp only[Eg]at h
  grind
def Eg.drop{b o:Nat}{cs:Ac D}(h:Eg S L w b o cs)(n:Nat):Eg S L w b (o+n) (cs.drop n):=by
 induction cs generalizing o n with
 |nil=>simp[Eg]
 |cons e r a=>
  cases n with
  |zero=>simpa using h
  |succ n=>
   simp only[Eg]at h
   grind
def Eg.take{b o:Nat}{cs:Ac D}(h:Eg S L w b o cs)(n:Nat):Eg S L w b o (cs.take n):=by
 induction cs generalizing o n with
 |nil=>simp[Eg]
 |cons e r a=>
  cases n with
  |zero=>simp[Eg]
  |succ n=>
   simp only[Eg]at h;simp only[QX,Eg]
   grind
def Eg.values{b o:Nat}{cs:Ac D}(h:Eg S L w b o cs):∃xs:Ac Ap,Au S L w xs cs/\∀j x,xs[j]? =some x->w.cell? ⟨b,o+j,none⟩=some x:=by
 induction cs generalizing o with
 |nil=>exact⟨[],Au.nil,by simp⟩
 |cons e r f=>
  simp only[Eg]at h;obtain⟨⟨x,i,d⟩,a⟩:=h;obtain⟨xs,c,k⟩:=f a;refine⟨x::xs,Au.cons d c,fun j y g=> ?_⟩
  grind
def Eg.of{b o:Nat}{xs:Ac Ap}{cs:Ac D}(h:Au S L w xs cs)(a:∀j x,xs[j]? =some x->w.cell? ⟨b,o+j,none⟩=some x):Eg S L w b o cs:=by
 induction cs generalizing o xs with
 |nil=>simp[Eg]
 |cons e r f=>
  simp only[Au]at h;obtain⟨x,i,rfl,g,d⟩:=h;simp only[Eg];refine⟨⟨x,by simpa using a 0 x rfl,g⟩,f d fun j y c=> ?_⟩;have:=a (j+1) y (by simpa using c)
  grind
def EM.get{b o sz:Nat}{els:Ac (Ac D)}(h:EM S L w b o sz els)(i:Nat)(e:Ac D)(a:els[i]? =some e):e.length=sz/\Eg S L w b (o+i*sz) e:=by
 induction els generalizing o i with
 |nil=>simp at a
 |cons x r c=>
  simp only[EM]at h;cases i with
  |zero=>grind
  |succ i=>
   grind
def EM.drop{b o sz:Nat}{els:Ac (Ac D)}(h:EM S L w b o sz els)(n:Nat):EM S L w b (o+n*sz) sz (els.drop n):=by
 induction els generalizing o n with
 |nil=>simp[EM]
 |cons x r a=>
  cases n with
  |zero=>simpa using h
  |succ n=>
   simp only[EM]at h
   grind
def EM.take{b o sz:Nat}{els:Ac (Ac D)}(h:EM S L w b o sz els)(n:Nat):EM S L w b o sz (els.take n):=by
 induction els generalizing o n with
 |nil=>simp[EM]
 |cons x r a=>
  cases n with
  |zero=>simp[EM]
  |succ n=>
   simp only[EM]at h;simp only[QX,EM]
   grind
def EM.of{b o sz:Nat}{els:Ac (Ac D)}(a:∀e∈els,e.length=sz)(h:Eg S L w b o els.flatten):EM S L w b o sz els:=by
 induction els generalizing o with
 |nil=>simp[EM]
 |cons x r f=>
  simp only[EM];have c:=a x (by simp);refine⟨c,?_,f (fun e d=>a e (by simp[d])) ?_⟩
  ·have:=h.take x.length
   grind
  ·have:=h.drop x.length
   grind
end
def Rep.lift{S:Nat->Prop}{L:Ac (Nat×Nat)}{w:AA}{x:Ap}{d:D}(h:Rep S [] w x d):Rep S L w x d:=Rep.kept (Kept.refl S w) (fun _ h=>h) (fun i p a=>by simp at a) d x h
def Au.lift{S:Nat->Prop}{L:Ac (Nat×Nat)}{w:AA}{xs:Ac Ap}{ds:Ac D}(h:Au S [] w xs ds):Au S L w xs ds:=Au.kept (Kept.refl S w) (fun _ h=>h) (fun i p a=>by simp at a) ds xs h
inductive LS where
 |ready
 |busy
 |done (lv:Lv)
def Lv.code:Lv->Code
 | .normal=> .skip
 | .exit id=> .exit id
 | .ret=> .ret
 | .goto _| .pan _=> .skip
def LS.state:LS->LoopState
 | .ready=> .ready
 | .busy=> .busy
 | .done _=> .done
def LS.pend:LS->Af Code
 | .done a=>some a.code
 |_=>none
def Ru:Ac Nat->Ac D->Nat->D
 |k::kp,d::s,t=>if k=t then d else Ru kp s t
 |_,_,_=> .undef
def Uk(sz:Nat)(kp:Ac Nat)(s:Ac D):Ac D:=(List.range sz).map (Ru kp s)
inductive HO where
 |cells (t:TypeId) (sz:Nat) (cs:List D)
 |map (ks:List Int) (vs:List D)
 |loop (st:LS) (ps:List Nat) (assign body:Code) (sz:Nat) (kp:List Nat) (s:List D)
 |dead
 deriving Inhabited
abbrev Ae:=Ac HO
abbrev GT:=Ac D->Ae->Af (D×Ae)
def PO(S:Nat->Prop)(L:Ac (Nat×Nat))(w:AA)(b c:Nat):HO->Prop
 | .cells t sz cs=>∃arr:CX Ap,w.heap[b]? =some (.cells arr t (0,0))/\arr.size=c*sz/\c<=maxLen/\cs.length<=arr.size/\
  ∀(j:Nat) (d:D),cs[j]? =some d->∃x,arr[j]? =some x/\x.oneCell'=true/\Rep S L w x d
 | .map f vs=>∃(arr:CX MapEntry) (a:Nat),w.heap[b]? =some (.map arr a)/\arr.toList.map (·.key)=f.map (Value.int .i64)/\Au S L w (arr.toList.map (·.val)) vs
 | .loop st e assign body sz kp s=>∃r:Loop,w.heap[b]? =some (.loop r)/\r.state=st.state/\r.pending=st.pend/\r.params.toList=e/\r.assign=assign/\r.body=body/\Au S L w r.tmps.toList (Uk sz kp s)
 | .dead=>True
def PO.mark{S:Nat->Prop}{L:Ac (Nat×Nat)}{w:AA}{b c:Nat}{o:HO}(h:PO S L w b c o)(e:o≠ .dead)(x:Af (Ac Deferred)):w.heap[b]? ≠some (.deferred x):=by
 cases o with
 |cells t sz cs=>obtain⟨arr,a,_⟩:=h;grind
 |map f vs=>obtain⟨arr,d,a,_⟩:=h;grind
 |loop st g as' i sz kp s=>obtain⟨r,a,_⟩:=h;grind
 |dead=>exact absurd rfl e
def PO.lt{S:Nat->Prop}{L:Ac (Nat×Nat)}{w:AA}{b c:Nat}{o:HO}(h:PO S L w b c o)(e:o≠ .dead):b<w.heap.size:=by
 cases o with
 |cells t sz cs=>obtain⟨arr,a,_⟩:=h;grind
 |map f vs=>obtain⟨arr,d,a,_⟩:=h;grind
 |loop st g as' i sz kp s=>obtain⟨r,a,_⟩:=h;grind
 |dead=>exact absurd rfl e
def PO.kept{S m:Nat->Prop}{L p:Ac (Nat×Nat)}{w i:AA}{b c:Nat}{o:HO}(h:PO S L w b c o)(n:i.heap[b]? =w.heap[b]?)(A:∀x d,Rep S L w x d->Rep m p i x d)(a:∀xs ds,Au S L w xs ds->Au m p i xs ds):PO m p i b c o:=by
 cases o with
 |cells t sz cs=>
  obtain⟨arr,e,g,f,l,q⟩:=h;refine⟨arr,n.trans e,g,f,l,fun j d B=> ?_⟩
  grind
 |map y vs=>
  obtain⟨arr,k,e,g,f⟩:=h;exact⟨arr,k,n.trans e,g,a _ _ f⟩
 |loop st z as' C sz kp s=>
  obtain⟨r,e,g,f,l,q,u,v⟩:=h;exact⟨r,n.trans e,g,f,l,q,u,a _ _ v⟩
 |dead=>trivial
structure BD(B:Nat)(S:Nat->Prop)(L:List (Nat×Nat))(w:World)(H:Ae):Prop where
 len:L.length=H.length
 small:∀k,S k->k<w.heap.size
 base:B<=w.heap.size
 obj:∀(id:Nat) (o:HO),H[id]? =some o->o≠ .dead->∃(b c:Nat),L[id]? =some (b,c)/\B<=b/\¬S b/\PO S L w b c o
 inj:∀(id id':Nat) (o o':HO) (p p':Nat×Nat),H[id]? =some o->o≠ .dead->H[id']? =some o'->o'≠ .dead->L[id]? =some p->L[id']? =some p'->p.1=p'.1->id=id'
def BD.live{B:Nat}{S:Nat->Prop}{L:Ac (Nat×Nat)}{w:AA}{H:Ae}(h:BD B S L w H)(id:Nat)(t:AQ)(sz:Nat)(cs:Ac D)(hid:H[id]? =some (HO.cells t sz cs)):
  ∃(b c:Nat) (arr:CX Ap),L[id]? =some (b,c)/\B<=b/\¬S b/\w.heap[b]? =some (.cells arr t (0,0))/\arr.size=c*sz/\c<=maxLen/\cs.length<=arr.size/\
   ∀(j:Nat) (d:D),cs[j]? =some d->∃x,arr[j]? =some x/\x.oneCell'=true/\Rep S L w x d:=by
 obtain⟨b,c,i,g,a,arr,f⟩:=h.obj id _ hid (by intro e;cases e);exact⟨b,c,arr,i,g,a,f⟩
def TM{L a:Ac (Nat×Nat)}(h:L<+:a):∀(i:Nat) (p:Nat×Nat),L[i]? =some p->a[i]? =some p:=by
 obtain⟨t,rfl⟩:=h
 grind
structure Later(B:Nat)(S S':Nat->Prop)(L L':List (Nat×Nat))(w w':World):Prop where
 below:Below B w w'
 kept:Kept S w w'
 more:∀k,S k->S' k
 pre:L<+:L'
 only:∀k,S' k->S k\/w.heap.size<=k
 marks:∀k:Nat,w.heap[k]? =some (Obj.deferred (some []))->w'.heap[k]? =some (Obj.deferred (some []))
def Later.refl{B:Nat}{S:Nat->Prop}{L:Ac (Nat×Nat)}{w:AA}:Later B S S L L w w:=⟨Below.refl _ _,Kept.refl _ _,fun _ h=>h,eF _,fun _ h=> .inl h,fun _ h=>h⟩
def Later.trans{B:Nat}{S e b:Nat->Prop}{L g a:Ac (Nat×Nat)}{w f d:AA}(h:Later B S e L g w f)(k:Later B e b g a f d):Later B S b L a w d:=
 ⟨h.below.trans k.below,h.kept.trans (k.kept.mono h.more),fun i c=>k.more i (h.more i c),h.pre.trans k.pre,fun i c=>(k.only i c).elim (h.only i) fun j=> .inr (Ig h.kept.size j),fun i c=>k.marks i (h.marks i c)⟩
def Later.rep{B:Nat}{S c:Nat->Prop}{L b:Ac (Nat×Nat)}{w a:AA}(h:Later B S c L b w a){x:Ap}{d:D}(e:Rep S L w x d):Rep c b a x d:=Rep.kept h.kept h.more (TM h.pre) d x e
def Later.repA{B:Nat}{S c:Nat->Prop}{L b:Ac (Nat×Nat)}{w a:AA}(h:Later B S c L b w a){xs:Ac Ap}{ds:Ac D}(d:Au S L w xs ds):Au c b a xs ds:=Au.kept h.kept h.more (TM h.pre) ds xs d
def ZR:TypeDesc->Bool
 | .struct _| .array _ _=>true
 |_=>false
def L9(P:Aj)(t:AQ):Af (Af Nat):=
 match P.underlying t,P.info? t with
 |some u,some i=>some (if ZR u then some i.size else none)
 |_,_=>none
def MW(s:Af Nat)(cs:Ac D)(off:Nat):Af D:=
 match s with
 |some n=>if off+n<=cs.length then some (.agg ((cs.drop off).take n))else none
 |none=>cs[off]?
def Uy(P:Aj)(t:AQ)(cs:Ac D)(off:Nat):Af D:=(L9 P t).bind fun s=>MW s cs off
def tY:D->Af (Ac D)
 | .ptr cs=>some cs
 |_=>none
def LE:D->Af (Ac D)
 | .agg cs=>some cs
 |_=>none
def U6:D->Af (Ac D)
 | .tup cs=>some cs
 |_=>none
def Dk(k:IntKind):D->Af D
 | .v (.int _ n)=>some (.v (.int k (k.wrap n)))
 |_=>none
def WG:D->Af D
 | .v (.int k n)=>some (.v (.int k (k.wrap (0-n))))
 |_=>none
def D7:D->Af (Ac D)
 | .agg cs=>some cs
 | .v (.agg xs)=>some (xs.toList.map .v)
 | .v (.tuple _)=>none
 | .v x=>some [.v x]
 | .sl sz els=>some [.sl sz els]
 | .ptr cs=>some [.ptr cs]
 | .hp i o=>some [.hp i o]
 | .hs i n=>some [.hs i n]
 | .ifc t d=>some [.ifc t d]
 | .clo f a b=>some [.clo f a b]
 | .mp i=>some [.mp i]
 | .mv c vs=>some [.mv c vs]
 | .yld i=>some [.yld i]
 | .ht i o n=>some [.ht i o n]
 |_=>none
def EJ(op:BinOp)(k:IntKind)(a b:Int):Af D:=
 match op with
 | .add=>some (.v (.int k (k.wrap (a+b))))
 | .sub=>some (.v (.int k (k.wrap (a-b))))
 | .mul=>some (.v (.int k (k.wrap (a*b))))
 | .eql=>some (.v (.bool (a==b)))
 | .neq=>some (.v (.bool (a !=b)))
 | .lss=>some (.v (.bool (decide (a<b))))
 | .leq=>some (.v (.bool (decide (a<=b))))
 | .gtr=>some (.v (.bool (decide (a>b))))
 | .geq=>some (.v (.bool (decide (a>=b))))
 | .quo=>if b=0 then none else some (.v (.int k (k.wrap (a.tdiv b))))
 | .rem=>if b=0 then none else some (.v (.int k (a.tmod b)))
 | .and=>some (.v (.int k (k.wrap (BitVec.ofInt k.bits a&&&BitVec.ofInt k.bits b).toNat)))
 | .or=>some (.v (.int k (k.wrap (BitVec.ofInt k.bits a|||BitVec.ofInt k.bits b).toNat)))
 | .xor=>some (.v (.int k (k.wrap (BitVec.ofInt k.bits a^^^BitVec.ofInt k.bits b).toNat)))
 | .andNot=>some (.v (.int k (k.wrap (BitVec.ofInt k.bits a&&& ~~~BitVec.ofInt k.bits b).toNat)))
 |_=>none
def LX(op:BinOp)(k:IntKind)(a b:Int):Af D:=
 if b<0 then none else
 match op with
 | .shl=>some (.v (.int k (k.wrap (a*2^(min b.toNat k.bits)))))
 | .shr=>some (.v (.int k (a.fdiv (2^(min b.toNat k.bits)))))
 |_=>none
def Ux(op:BinOp)(x y:Tc):Af D:=
 match op with
 | .add=>if x.size+y.size<=9223372036854775807 then some (.v (.string (x++y)))else none
 | .eql=>some (.v (.bool (x.toList==y.toList)))
 | .neq=>some (.v (.bool (!(x.toList==y.toList))))
 | .lss=>some (.v (.bool (Op.bytesLess x.toList y.toList)))
 | .leq=>some (.v (.bool (Op.bytesLess x.toList y.toList||x.toList==y.toList)))
 | .gtr=>some (.v (.bool (!(Op.bytesLess x.toList y.toList||x.toList==y.toList))))
 | .geq=>some (.v (.bool (!Op.bytesLess x.toList y.toList)))
 |_=>none
def Sl:Ac D->Af (Ac Int)
 |[]=>some []
 | .v (.int .i64 n)::r=>(Sl r).map (n:: ·)
 |_=>none
def RO(P:Aj)(t:AQ):Bool:=
 match P.underlying t with
 |some (.struct fs)=> !P.stoodInHeld t&& !P.eqGuardType P.depth t&&fs.toList.zipIdx.all fun(f,i)=>f.name != "_" &&f.offset==i&&(match P.underlying f.type with|some (.int .i64)=>true|_=>false)
 |_=>false
inductive Kd where
 |int
 |bool
 |str
 |sl
 |ints (n:Nat)
 |ifc
 |ptr
 |other
def Jt(P:Aj)(t:AQ):Kd:=
 match P.underlying t with
 |some (.int _)=> .int
 |some .bool=> .bool
 |some .string=> .str
 |some (.slice _)=> .sl
 |some (.interface _)=> .ifc
 |some (.pointer _)=> .ptr
 |some (.struct fs)=>if RO P t then .ints fs.size else .other
 |_=> .other
def Ug(k:Kd)(x y:D):Af Bool:=
 match k,x,y with
 | .ints n,.agg xs,.agg c=>
  match Sl xs,Sl c with
  |some a,some b=>if a.length=n/\b.length=n then some (decide (a=b))else none
  |_,_=>none
 |_,_,_=>none
def DA:D->D->Af Bool
 | .hp _ _,.v (.pointer none)=>some false
 | .ptr _,.v (.pointer none)=>some false
 | .v (.pointer none),.v (.pointer none)=>some true
 |_,_=>none
def Ag(k:Kd)(op:BinOp)(x y:D):Af D:=
 match x,y with
 | .v (.int k a),.v (.int c b)=>
  match op with
  | .shl=>LX .shl k a b
  | .shr=>LX .shr k a b
  |op=>if k=c then EJ op k a b else none
 | .v (.bool a),.v (.bool b)=>
  match op,k with
  | .eql,.bool=>some (.v (.bool (a==b)))
  | .neq,.bool=>some (.v (.bool (!(a==b))))
  |_,_=>none
 | .v (.string a),.v (.string b)=>Ux op a b
 | .ifc _ _,.v .nilIface=>
  match op,k with
  | .eql,.ifc=>some (.v (.bool false))
  | .neq,.ifc=>some (.v (.bool true))
  |_,_=>none
 | .sl _ (_::_),.v (.slice none 0 0)=>
  match op,k with
  | .eql,.sl=>some (.v (.bool false))
  | .neq,.sl=>some (.v (.bool true))
  |_,_=>none
 | .hs _ _,.v (.slice none 0 0)=>
  match op,k with
  | .eql,.sl=>some (.v (.bool false))
  | .neq,.sl=>some (.v (.bool true))
  |_,_=>none
 |x,y=>
  match op,k with
  | .eql,.ptr=>(DA x y).map fun b=> .v (.bool b)
  | .neq,.ptr=>(DA x y).map fun b=> .v (.bool !b)
  | .eql,k=>(Ug k x y).map fun b=> .v (.bool b)
  | .neq,k=>(Ug k x y).map fun b=> .v (.bool !b)
  |_,_=>none
def Xk:Operand->Bool
 | .const _=>true
 |_=>false
def VX(c:Bool)(k:Kd)(op:BinOp)(x y:D):Af D:=
 match x,y with
 | .v .nilIface,.v .nilIface=>
  match c,op,k with
  |true,.eql,.ifc=>some (.v (.bool true))
  |true,.neq,.ifc=>some (.v (.bool false))
  |_,_,_=>none
 |x,y=>Ag k op x y
def YG:D->Af Bool
 | .v (.bool b)=>some b
 |_=>none
def IC:D->Af Nat
 | .v (.int _ n)=>if 0<=n then some n.toNat else none
 |_=>none
def IU(sz:Nat):D->Af (Ac (Ac D))
 | .sl s els=>if s=sz\/els=[]then some els else none
 | .v (.slice none 0 0)=>some []
 |_=>none
def PX(P:Aj)(t:AQ):Af Nat:=
 match P.underlying t with
 |some (.slice e)=>(P.info? e).map (·.size)
 |_=>none
def Si(sz:Nat)(x i:D):Af D:=
 match IU sz x,IC i with
 |some els,some n=>(els[n]?).map D.ptr
 |_,_=>none
def Wv(P:Aj)(t:AQ)(f:Nat):Af (AQ×Nat):=
 match P.underlying t with
 |some (.struct fs)=>(fs[f]?).map fun x=>(x.type,x.offset)
 |_=>none
def Nu:Af D->Af Nat
 |none=>some 0
 |some d=>IC d
def KX(n:Nat):Af D->Af Nat
 |none=>some n
 |some d=>IC d
def uM(sz:Nat)(x:D)(b a:Af D):Af D:=
 match IU sz x with
 |none=>none
 |some els=>
  match Nu b,KX els.length a with
  |some l,some h=>if l<=h/\h<=els.length then some (.sl sz ((els.take h).drop l))else none
  |_,_=>none
def O0(a:Nat->Af (Nat×Nat))(cells:Ac D):Ac (Nat×D)->Af (Ac D)
 |[]=>some cells
 |(i,d)::b=>
  match a i,D7 d with
  |some (off,size),some cs=>if cs.length≠size\/off+cs.length>cells.length then none else O0 a (cs.zipIdx.foldl (fun e (c,j)=>e.set (off+j) c) cells) b
  |_,_=>none
def uJ(P:Aj)(t:AQ):Af (Ac D):=
 match P.info? t with
 |some i=>i.zero.map fun z=>z.cells.toList.map D.v
 |none=>none
def CY(b:Ac (Nat×Nat))(z:Ac D)(a:Ac (Nat×D)):Af D:=(O0 (b[·]?) z a).map D.agg
def XX(sz:Nat)(z:Ac D)(a:Ac (Nat×D)):Af D:=(O0 (fun k=>some (k*sz,sz)) z a).map D.agg
def Kf(P:Aj)(t:AQ)(a:Ac (Nat×D)):Af D:=
 match P.underlying t,uJ P t with
 |some (.struct fs),some z=>
  match fs.toList.mapM fun f=>(P.info? f.type).map fun i=>(f.offset,i.size)with
  |some c=>CY c z a
  |none=>none
 |some (.array _ e),some z=>
  match P.info? e with
  |some b=>XX b.size z a
  |none=>none
 |_,_=>none
def G9{α:Type}(sz:Nat):Nat->Ac α->Ac (Ac α)
 |0,_=>[]
 |n+1,l=>l.take sz::G9 sz n (l.drop sz)
def tX(sz len:Nat)(z:Ac D)(a:Ac (Nat×D)):Af D:=
 if len=0 then(if a.isEmpty then some (.sl sz [])else none)else
 (O0 (fun k=>some (k*sz,sz)) ((List.range (len*sz)).map fun k=>z.getD (k%z.length) .undef) a).map fun cs=> .sl sz (G9 sz len cs)
def OT(k:Kd)(x:D):Af D:=
 match k,x with
 | .sl,.sl _ els=>some (.v (.int .i64 els.length))
 | .sl,.v (.slice _ n _)=>some (.v (.int .i64 n))
 | .str,.v (.string s)=>some (.v (.int .i64 s.size))
 |_,_=>none
def dV(f:Int->Int->Int):Af Int->D->Af Int
 |some a,.v (.int _ b)=>some (f a b)
 |_,_=>none
def Hv(f:Int->Int->Int):Ac D->Af D
 | .v (.int k a)::r=>(r.foldl (dV f) (some a)).map fun a=> .v (.int k a)
 |_=>none
def GQ(c a b:D):Af D:=(YG c).map fun d=>if d then a else b
def Gn(x:D):Af D:=(YG x).map fun b=> .v (.bool !b)
def JdU(s:Af Nat)(x:D):Af D:=(tY x).bind fun cs=>MW s cs 0
def Vb(s:Af Nat)(off:Nat)(x:D):Af D:=(LE x).bind fun cs=>MW s cs off
def Jdh(off:Nat)(x:D):Af D:=(tY x).map fun cs=> .ptr (cs.drop off)
def DN(x:D)(i:Nat):Af D:=(U6 x).bind fun ds=>ds[i]?
def mH(l:Ac D):Af D:=Hv (fun x y=>if y>x then y else x) l
def nF(l:Ac D):Af D:=Hv (fun x y=>if y<x then y else x) l
def Df:D->Bool
 | .v (.agg _)| .v (.tuple _)=>false
 | .undef| .agg _| .tup _=>false
 |_=>true
def Ai(s:Af Nat)(H:Ae)(x:D):Af D:=
 match x with
 | .hp id off=>
  match H[id]? with
  |some (.cells _ _ cs)=>MW s (cs.drop off) 0
  |_=>none
 |x=>JdU s x
def AP(off:Nat)(x:D):Af D:=
 match x with
 | .hp id o=>some (.hp id (o+off))
 |x=>Jdh off x
def BG(sz:Nat)(x i:D):Af D:=
 match x with
 | .hs id n=>(IC i).bind fun k=>if k<n then some (.hp id (k*sz))else none
 | .ht id off n=>(IC i).bind fun k=>if k<n then some (.hp id (off+k*sz))else none
 |x=>Si sz x i
def Ec(n sz:Nat)(x i:D):Af D:=
 match x with
 | .hp id off=>(IC i).bind fun k=>if k<n then some (.hp id (off+k*sz))else none
 |_=>none
def VN(n sz:Nat)(x:D)(b a:Af D):Af D:=
 match x with
 | .hp id off=>
  match Nu b,KX n a with
  |some l,some h=>if l<=h/\h<=n then some (.ht id (off+l*sz) (h-l))else none
  |_,_=>none
 |_=>none
def XC(n sz:Nat)(s:Af Nat)(x i:D):Af D:=(LE x).bind fun cs=>(IC i).bind fun k=>if k<n then MW s cs (k*sz)else none
def Xp(n sz:Nat):D->Af D
 | .sl s els=>if s=sz/\n<=els.length/\0<n then some (.ptr els.flatten)else none
 | .hs id m=>if n<=m then some (.hp id 0)else none
 | .ht id off m=>if n<=m/\0<n then some (.hp id off)else none
 |_=>none
def jZ(P:Aj)(t:AQ):Af (Nat×Nat):=
 match P.underlying t with
 |some (.array n e)=>(P.info? e).map fun i=>(n,i.size)
 |_=>none
def Bq(k:Kd)(x:D):Af D:=
 match k,x with
 | .sl,.hs _ n=>some (.v (.int .i64 n))
 | .sl,.ht _ _ n=>some (.v (.int .i64 n))
 |k,x=>OT k x
def IJ(sz:Nat)(x:D)(b a:Af D):Af D:=
 match x with
 | .hs id n=>
  match Nu b,KX n a with
  |some l,some h=>if l=0/\h<=n then some (.hs id h)else if l<=h/\h<=n then some (.ht id (l*sz) (h-l))else none
  |_,_=>none
 | .ht id off n=>
  match Nu b,KX n a with
  |some l,some h=>if l<=h/\h<=n then some (.ht id (off+l*sz) (h-l))else none
  |_,_=>none
 |x=>uM sz x b a
def Gg(t:AQ)(sz:Nat)(cs:Ac D)(H:Ae):Af (Nat×Ae):=if cs.all Df then some (H.length,H++[.cells t sz cs])else none
def BA(t:AQ)(x:D)(H:Ae):Af (D×Ae):=(D7 x).bind fun cs=>(Gg t cs.length cs H).map fun r=>(.hp r.1 0,r.2)
def BX(t:AQ)(z:Ac D)(H:Ae):Af (D×Ae):=(Gg t z.length z H).map fun r=>(.hp r.1 0,r.2)
def DI(e:AQ)(sz len:Nat)(z:Ac D)(a:Ac (Nat×D))(H:Ae):Af (D×Ae):=
 (tX sz len z a).bind fun d=>(IU sz d).bind fun els=>(Gg e sz els.flatten H).map fun r=>(.hs r.1 len,r.2)
def FI(n:Nat)(x v:D)(H:Ae):Af Ae:=
 match x,D7 v with
 | .hp id off,some ds=>
  match H[id]? with
  |some (.cells t sz cs)=>if ds.length=n/\off+ds.length<=cs.length/\ds.all Df then some (H.set id (.cells t sz (cs.take off++ds++cs.drop (off+ds.length))))else none
  |_=>none
 |_,_=>none
def Bh(n:Nat)(x v:D)(H:Ae):Af (D×Ae):=(FI n x v H).map fun H'=>(.v undef,H')
def GV(sz:Nat)(H:Ae)(x:D):Af (Ac D):=
 match x with
 | .hs id n=>
  match H[id]? with
  |some (.cells _ s cs)=>if s=sz/\n*sz<=cs.length then some (cs.take (n*sz))else none
  |_=>none
 | .ht id off n=>
  match H[id]? with
  |some (.cells _ _ cs)=>if off+n*sz<=cs.length then some ((cs.drop off).take (n*sz))else none
  |_=>none
 |x=>(IU sz x).map List.flatten
def KW(e:AQ)(sz:Nat)(s:D)(new:Ac D)(H:Ae):Af (D×Ae):=
 if sz=0\/ !new.all Df then none else
 match s with
 | .v (.slice none 0 0)=>if new.length=0 then some (s,H)else if new.length<=4000000 then some (.hs H.length (new.length/sz),H++[.cells e sz new])else none
 | .hs id n=>
  match H[id]? with
  |some (.cells t a cs)=>if t=e/\a=sz/\cs.length=n*sz/\cs.length+new.length<=4000000 then some (.hs H.length (n+new.length/sz),(H.set id .dead)++[.cells e sz (cs++new)])else
   if t=e/\a=sz/\n*sz<cs.length/\n*sz+new.length<=4000000 then some (.hs H.length (n+new.length/sz),(H.set id .dead)++[.cells e sz (cs.take (n*sz)++new)])else none
  |_=>none
 |_=>none
def D5(e:AQ)(sz:Nat)(s x:D)(H:Ae):Af (D×Ae):=(GV sz H x).bind fun new=>KW e sz s new H
def Rz(s:Tc):Ac D:=s.data.toList.map fun b=> .v (.int .u8 b.toNat)
def UQ(e:AQ)(sz:Nat)(s x:D)(H:Ae):Af (D×Ae):=
 match x with
 | .v (.string t)=>if sz=1 then KW e sz s (Rz t) H else none
 |_=>none
def WQ:D->Af (Nat×Nat×Nat)
 | .hs id n=>some (id,0,n)
 | .ht id off n=>some (id,off,n)
 |_=>none
def QD(sz:Nat)(dst src:D)(H:Ae):Af (D×Ae):=
 (WQ dst).bind fun x=>
 match H[x.1]? with
 |some (.cells t s cs)=>(GV sz H src).bind fun new=>
  if 0<sz/\x.2.1+x.2.2*sz<=cs.length/\((new.take (min (new.length/sz) x.2.2*sz)).all Df)=true then
   some (.v (.int .i64 (min (new.length/sz) x.2.2:Nat)),H.set x.1 (.cells t s (cs.take x.2.1++new.take (min (new.length/sz) x.2.2*sz)++cs.drop (x.2.1+min (new.length/sz) x.2.2*sz))))else none
 |_=>none
def WO(sz:Nat)(z:Ac D)(x:D)(H:Ae):Af (D×Ae):=
 (WQ x).bind fun x=>
 match H[x.1]? with
 |some (.cells t s cs)=>
  if s=sz/\z.length=sz/\x.2.1+x.2.2*sz<=cs.length/\z.all Df=true then
   some (.v undef,H.set x.1 (.cells t s (cs.take x.2.1++(List.replicate x.2.2 z).flatten++cs.drop (x.2.1+x.2.2*sz))))else none
 |_=>none
def NV(e:AQ)(sz:Nat)(z:Ac D)(n m:D)(H:Ae):Af (D×Ae):=
 match n,m with
 | .v (.int _ a),.v (.int _ b)=>if a=b/\0<=a/\a<=4000000/\z.length=sz then(Gg e sz (List.replicate a.toNat z).flatten H).map fun r=>(.hs r.1 a.toNat,r.2)else none
 |_,_=>none
def bF:D->Af D
 | .v (.int k n)=>EJ .xor k (if k.signed then-1 else k.max) n
 |_=>none
def lY(P:Aj)(t:AQ):Af (AQ×Nat×Ac D):=
 match P.underlying t with
 |some (.slice e)=>(P.info? e).bind fun i=>match i.zero with|some z=>if z.cells.size=i.size/\i.bytes<=1000 then some (e,i.size,z.cells.toList.map D.v)else none|none=>none
 |_=>none
def WA(P:Aj)(t:AQ):Af (AQ×Nat):=
 match P.underlying t with
 |some (.slice e)=>(P.info? e).bind fun i=>match i.zero with|some z=>if z.cells.size=i.size/\i.bytes<=1000 then some (e,i.size)else none|none=>none
 |_=>none
def Fl(P:Aj)(t:AQ)(len:Nat):Af (AQ×Nat×Ac D):=
 match P.underlying t with
 |some (.slice e)=>
  match uJ P e,P.info? e with
  |some z,some i=>if i.size=0\/z.length≠i.size\/1000<len*i.size then none else some (e,i.size,z)
  |_,_=>none
 |_=>none
def UE:D->Af Tc
 | .v (.string s)=>some s
 |_=>none
def Rt(x:D)(b a:Af D):Af D:=
 (UE x).bind fun s=>
 match Nu b,KX s.size a with
 |some l,some h=>if l<=h/\h<=s.size then some (.v (.string (s.extract l h)))else none
 |_,_=>none
def dW(x i:D):Af D:=
 (UE x).bind fun s=>(IC i).bind fun n=>(s[n]?).map fun b=> .v (.int .u8 b.toNat)
def YC(x:D):Af D:=(UE x).map fun s=> .sl 1 (s.data.toList.map fun b=>[.v (.int .u8 b.toNat)])
def IF(P:Aj):Op->Bool
 | .convert s t _=>match P.underlying s,P.underlying t with|some .string,some (.slice _)=>true|_,_=>false
 |_=>false
def Zp:D->Af UInt8
 | .v (.int .u8 n)=>some (UInt8.ofNat n.toNat)
 |_=>none
def MH(H:Ae)(x:D):Af D:=(GV 1 H x).bind fun cs=>(cs.mapM Zp).map fun bs=> .v (.string ⟨bs.toArray⟩)
def Ye(H:Ae):D->Af (Ac Int×Ac D)
 | .mp id=>
  match H[id]? with
  |some (.map a vs)=>some (a,vs)
  |_=>none
 | .mv a vs=>some (a,vs)
 | .v (.map none)=>some ([],[])
 |_=>none
def dK:D->Af Int
 | .v (.int .i64 n)=>some n
 |_=>none
def UN(P:Aj)(t:AQ):Af D:=
 match P.info? t with
 |some i=>i.zero.map fun z=>match z with| .agg cs=> .agg (cs.toList.map D.v)|z=> .v z
 |none=>none
def Vo(b:Ac Int)(vs:Ac D)(k:Int):Af D:=
 match b,vs with
 |a::r,v::s=>if k=a then some v else Vo r s k
 |_,_=>none
def XJ(P:Aj)(t:AQ):Af AQ:=
 match P.underlying t with
 |some (.map k e)=>match P.underlying k with|some (.int _)=>some e|_=>none
 |_=>none
def O8(zero:D)(ok:Bool)(H:Ae)(m k:D):Af D:=
 (Ye H m).bind fun kv=>(dK k).bind fun n=>
  match Vo kv.1 kv.2 n with
  |some v=>some (if ok then .tup [v,.v (.bool true)]else v)
  |none=>some (if ok then .tup [zero,.v (.bool false)]else zero)
def Tu(b:Ac Int)(vs:Ac D)(k:Int)(v:D):Ac Int×Ac D:=
 match b,vs with
 |a::r,u::s=>if k=a then(a::r,v::s)else let p:=Tu r s k v;(a::p.1,u::p.2)
 |_,_=>([k],[v])
def N9(m k v:D)(H:Ae):Af (D×Ae):=
 match m,dK k with
 | .mp id,some n=>
  match H[id]? with
  |some (.map a vs)=>let p:=Tu a vs n v;some (.v undef,H.set id (.map p.1 p.2))
  |_=>none
 |_,_=>none
def bT(H:Ae):Af (D×Ae):=some (.mp H.length,H++[.map [] []])
def Ph(u:AQ)(zero:D)(ok:Bool)(x:D):Af D:=
 match x with
 | .ifc t d=>if t=u then some (if ok then .tup [d,.v (.bool true)]else d)else if ok then some (.tup [zero,.v (.bool false)])else none
 | .v .nilIface=>if ok then some (.tup [zero,.v (.bool false)])else none
 |_=>none
def wB(P:Aj)(t:AQ):Bool:=
 match P.underlying t with
 |some (.interface _)|none=>false
 |_=>true
def cQ:TypeDesc->Bool
 | .pointer _=>true
 |_=>false
def WI(P:Aj)(t:AQ)(name:String):Af CG:=
 match P.info? t,P.underlying t with
 |some i,some u=>
  match i.methods.find? (·.name==name)with
  |some m=>
   match m.path.toList,m.func with
   |[],some (f,b)=>if b=cQ u then some f else none
   |_,_=>none
  |none=>none
 |_,_=>none
def IT(P:Aj):D->Af D
 | .hp i o=>some (.hp i o)
 | .ptr cs=>some (.ptr cs)
 | .clo (.method name) (.ifc t d::fs) cs=>(WI P t name).map fun _=> .clo (.method name) (.ifc t d::fs) cs
 |_=>none
def same(H:Ae)(o:Af D):Af (D×Ae):=o.map fun d=>(d,H)
def Cc(P:Aj)(op:Op)(ρ:Operand->D)(H:Ae):Af (D×Ae):=
 match op with
 | .move x| .assign x=>some (ρ x,H)
 | .pick c a b=>same H (GQ (ρ c) (ρ a) (ρ b))
 | .load t a=>(L9 P t).bind fun s=>same H (Ai s H (ρ a))
 | .box t x=>BA t (ρ x) H
 | .alloc t=>(uJ P t).bind fun z=>BX t z H
 | .store t a x=>(P.info? t).bind fun i=>Bh i.size (ρ a) (ρ x) H
 | .field t x f=>(Wv P t f).bind fun g=>(L9 P g.1).bind fun s=>same H (Vb s g.2 (ρ x))
 | .fieldAddr t x f=>(Wv P t f).bind fun g=>(P.info? g.1).bind fun i=>if i.size=0 then none else same H (AP g.2 (ρ x))
 | .indexAddr t x i=>match jZ P t with|some a=>same H (Ec a.1 a.2 (ρ x) (ρ i))|none=>(PX P t).bind fun sz=>same H (BG sz (ρ x) (ρ i))
 | .slice t x j l none=>
  match P.underlying t with
  |some .string=>same H (Rt (ρ x) (j.map ρ) (l.map ρ))
  |some (.array n e)=>(P.info? e).bind fun h=>same H (VN n h.size (ρ x) (j.map ρ) (l.map ρ))
  |_=>(PX P t).bind fun sz=>same H (IJ sz (ρ x) (j.map ρ) (l.map ρ))
 | .build t o=>same H (Kf P t (o.toList.map fun(i,x)=>(i,ρ x)))
 | .buildSlice t n o=>(Fl P t n).bind fun r=>DI r.1 r.2.1 n r.2.2 (o.toList.map fun(i,x)=>(i,ρ x)) H
 | .binOp op t x y _=>same H (VX (Xk x||Xk y) (Jt P t) op (ρ x) (ρ y))
 | .unOp .not _ x=>same H (Gn (ρ x))
 | .unOp .neg _ x=>same H (WG (ρ x))
 | .unOp .xor _ x=>same H (bF (ρ x))
 | .makeSlice t n m=>(lY P t).bind fun z=>NV z.1 z.2.1 z.2.2 (ρ n) (ρ m) H
 | .convert s t x=>
  match P.underlying s,P.underlying t with
  |some (.int _),some (.int k)=>same H (Dk k (ρ x))
  |some (.slice e),some .string=>
   match P.underlying e with
   |some (.int .u8)=>same H (MH H (ρ x))
   |_=>none
  |some .string,some .string=>same H ((UE (ρ x)).map fun s=> .v (.string s))
  |some .string,some (.slice e)=>
   match P.underlying e with
   |some (.int .u8)=>same H (YC (ρ x))
   |_=>none
  |_,_=>none
 | .index t x i=>match P.underlying t with|some .string=>same H (dW (ρ x) (ρ i))|some (.array n e)=>(P.info? e).bind fun h=>(L9 P e).bind fun s=>same H (XC n h.size s (ρ x) (ρ i))|_=>none
 | .sliceToArrayPointer t x=>match P.underlying t with|some (.array n e)=>(P.info? e).bind fun h=>same H (Xp n h.size (ρ x))|_=>none
 | .makeMap t none=>match P.underlying t with|some (.map _ _)=>bT H|_=>none
 | .mapUpdate t m k v| .insert t m k v=>(XJ P t).bind fun _=>N9 (ρ m) (ρ k) (ρ v) H
 | .lookup t m k ok=>(XJ P t).bind fun e=>(UN P e).bind fun z=>same H (O8 z ok H (ρ m) (ρ k))
 | .typeAssert x _ u ok=>if wB P u then(UN P u).bind fun z=>same H (Ph u z ok (ρ x))else none
 | .extract t i=>same H (DN (ρ t) i)
 | .makeInterface t x=>match P.underlying t with|some (.interface _)|none=>none|_=>some (.ifc t (ρ x),H)
 | .makeFunc f a b=>some (.clo f (a.toList.map ρ) (b.toList.map ρ),H)
 | .nilCheck x=>same H (IT P (ρ x))
 | .call {callee:= .builtin .len,args,argTypes}=>
  match args.toList,argTypes.toList with
  |[x],t::_=>same H (Bq (Jt P t) (ρ x))
  |_,_=>none
 | .call {callee:= .builtin .append,args,argTypes}=>
  match args.toList,argTypes.toList with
  |[s,x],[t,p]=>if t=p then(WA P t).bind fun d=>D5 d.1 d.2 (ρ s) (ρ x) H else
   match P.underlying p with
   |some .string=>(WA P t).bind fun d=>UQ d.1 d.2 (ρ s) (ρ x) H
   |_=>none
  |_,_=>none
 | .call {callee:= .builtin .copy,args,argTypes}=>
  match args.toList,argTypes.toList with
  |[s,x],t::_=>(WA P t).bind fun d=>QD d.2 (ρ s) (ρ x) H
  |_,_=>none
 | .call {callee:= .builtin .clear,args,argTypes}=>
  match args.toList,argTypes.toList with
  |[x],t::_=>(lY P t).bind fun z=>WO z.2.1 z.2.2 (ρ x) H
  |_,_=>none
 | .call {callee:= .builtin .max,args,.. }=>same H (mH (args.toList.map ρ))
 | .call {callee:= .builtin .min,args,.. }=>same H (nF (args.toList.map ρ))
 |_=>none
end Go.Proofs.YtapdelkomkpgmaaGreatDoor
