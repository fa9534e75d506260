import Derived.Lib.AppendZeros
import Derived.WalkSpells
import Derived.Lib.SliceRun
import Derived.Test.YtapdelkomkpgmaaGreatDoorQh
namespace Go.Proofs.YtapdelkomkpgmaaGreatDoor
open Go.Proofs.Tryz
open Go.RowKit
set_option maxRecDepth 100000
set_option linter.all false
def Ny:Nat->Ac Nd->Int->Int
 |0,_,_=>0
 |f+1,l,i=>if Bc l i<0 then 0 else(AZ l i).foldl (fun m k=>max m (Ny f l k)) 0+1
def WW(f:Nat)(l:Ac Nd)(a:Ac Int):Int:=a.foldl (fun m k=>max m (Ny f l k)) 0
def Jgk(f:Nat)(l:Ac Nd)(a:Ac Int)(x:Int):WW f l (a++[x])=max (WW f l a) (Ny f l x):=by simp[WW]
def tU(f:Nat)(l:Ac Nd)(i:Int)(h:Bc l i<0):Ny f l i=0:=by
 cases f with
 |zero=>rfl
 |succ f=>rw[Ny,Aw h]
def JoN(f:Nat)(l:Ac Nd)(i:Int)(h:0<=Bc l i):Ny (f+1) l i=WW f l (AZ l i)+1:=by
 rw[Ny,Am (by omega)];rfl
def JgT:∀(f:Nat) (l:Ac Nd) (i:Int),0<=Ny f l i/\Ny f l i<=f:=by
 intro f
 induction f with
 |zero=>intro l i;exact⟨Ab _,Ab _⟩
 |succ f e=>
  intro l i;have key:∀(a:Ac Int) (m:Int),0<=m->m<=f->0<=a.foldl (fun m k=>max m (Ny f l k)) m/\a.foldl (fun m k=>max m (Ny f l k)) m<=f:=by
   intro a
   induction a with
   |nil=>intro m d c;exact⟨d,c⟩
   |cons k a b=>intro m d c;have:=e l k;exact b _ (by show 0<=max _ _;omega) (by show max _ _<=_;omega)
  by_cases h:Bc l i<0
  ·rw[tU _ _ _ h];omega
  ·rw[Ny,Am h];have:=key (AZ l i) 0 (by omega) (by omega);omega
def JzB(f:Nat)(l:Ac Nd)(a:Ac Int):0<=WW f l a/\WW f l a<=f:=by
 have key:∀(a:Ac Int) (m:Int),0<=m->m<=f->0<=a.foldl (fun m k=>max m (Ny f l k)) m/\a.foldl (fun m k=>max m (Ny f l k)) m<=f:=by
  intro a
  induction a with
  |nil=>intro m d c;exact⟨d,c⟩
  |cons k a b=>intro m d c;have:=JgT f l k;exact b _ (by show 0<=max _ _;omega) (by show max _ _<=_;omega)
 exact key a 0 (by omega) (by omega)
def Jg2(l:Ac Nd)(i:Int)(x:Int)(h:x∈AZ l i):i<x/\0<=i/\x<=l.length:=by
 obtain⟨c,a,rfl⟩:=Jkx h;exact dY l i c a
section
open Go.RowKit Go.Shelf
def nT(l:Ac Nd)(i:Int)(v:Ap)(w:AA)(c:Ip w v l)(b:l.length<=4000000):
  Calls prog 219 #[v,.int .i64 i] w fun e a=>∃u,e= .returned u/\IntsIn (fun k=>w.heap.size<=k/\k<a.heap.size) a u (AZ l i)/\Below w.heap.size w a:=
 callsIn_wide.1 (QdB 3 (BQ _) l i v w c b)
end
section
open Go.RowKit Go.Shelf
attribute [local go_sem] Oper.semAt_some
def Joc{W U w3:AA}{B b g:Nat}{t i:AQ}{u v:Ap}{a:Int}{f:Nat}{l:Ac Nd}{n:Ac Int}(r:W.heap.size<=b/\g≠b)(m:Boxed U b t u)(s:Boxed U g i v)(e:Below W.heap.size W U)(c:Below U.drew.heap.size U.drew w3)
  (h:a=WW f l n):KeepsFrom B U (w3.setCell ⟨b,0,none⟩ (.int .i64 a))/\GI (fun j=>j=b) (B+2) U (w3.setCell ⟨b,0,none⟩ (.int .i64 a))/\
   (Boxed (w3.setCell ⟨b,0,none⟩ (.int .i64 a)) b t (.int .i64 (WW f l n))/\Boxed (w3.setCell ⟨b,0,none⟩ (.int .i64 a)) g i v/\Below W.heap.size W (w3.setCell ⟨b,0,none⟩ (.int .i64 a))):=by
 subst h;have d:Below U.heap.size U w3:=⟨c.os,c.tape,c.output,c.size,c.block⟩;have y:KeepsFrom B U w3:=⟨d.size,fun k o _ q _=>(d.block k (IY.1 q).1).trans q⟩;have w:Boxed w3 b t u:=(d.block _ m.lt).trans m;have x:Boxed w3 g i v:=(d.block _ s.lt).trans s;exact⟨y.trans ((KeepsOthers.setCell _ _ _).from _),(TP d).trans (SP (X:=fun j=>j=b) w3 (p:=⟨b,0,none⟩) rfl _),w.set _,x.other r.2 _,(e.trans (d.mono e.size)).setCell (p:=⟨b,0,none⟩) r.1 _⟩
set_option maxRecDepth 100000 in
set_option maxHeartbeats 4000000 in
theorem Jbn (l : Ac Nd) (hl : l.length ≤ 4000000) : ∀ (f : Nat) (i : Int) (v : Ap) (w : AA), f ≤ 4000001 → ((l.length : Int) ≤ i + f ∨ i < 0) → Ip w v l →
    Calls prog 165 #[v, .int .i64 i] w fun e w' => e = .returned (.int .i64 (Ny f l i)) ∧ Below w.heap.size w w' := by
  intro f
  induction f with
  | zero =>
    intro i v w hf hi hv
    have hlt : Bc l i < 0 := by
      rcases XG l i with hE | hE
      · omega
      · obtain ⟨h1, h2⟩ := F6 l i hE; omega
    obtain ⟨p, cap, hsl⟩ := hv.slice
    subst hsl
    have hv0 := hv.below (NZ w (.cells #[.slice p l.length cap] 23))
    go_enter func165, ntmps165
    go_wp2_with (go_at_call 164; refine (LY l _ _ _ hv0 hl).mono ?_; rintro e w1 ⟨rfl, hb⟩)
    go_ret
    exact ⟨rfl, (NZ w _).trans (hb.mono (by simp))⟩
  | succ f ih =>
    intro i v w hf hi hv
    obtain ⟨p, cap, hsl⟩ := hv.slice
    subst hsl
    have hv0 := hv.below (NZ w (.cells #[.slice p l.length cap] 23))
    refine callsIn_wide.1 (?_ : CallsIn Fence.wide 1 _ _ _ _ _)
    refine callsIn_of_wp_marks func165 rfl trivial ?_ rfl
    simp only [ntmps165, SX, Ej, Hf, Nat.reduceAdd, Nat.reduceSub, Zf, Zg, Zh, Zi, JO, Jd]
    rcases XG l i with hE | hE
    · have hlt : Bc l i < 0 := by omega
      have HK := Lib.hid (tU (f + 1) l i hlt)
      clear hE hi
      gi_wp2_with (gi_at_call 164; refine (callsIn_wide.2 (LY l _ _ _ hv0 hl)).mono ?_; rintro e w1 ⟨rfl, hb⟩)
      exact ⟨_, results_tmp rfl _ _ _, by rw [HK.out]; rfl, (NZ w _).trans (hb.mono (by simp))⟩
    · obtain ⟨hi0, hil⟩ := F6 l i hE
      obtain ⟨k, rfl⟩ := Fq hi0
      have hkl : k < l.length := by simpa using hil
      have HI : Hid ((l.length : Int) ≤ k + (f + 1 : Nat)) := Lib.hid (by omega)
      have HY := Lib.hid (JoN f l k hE)
      have hnlt : ¬ Bc l k < 0 := by omega
      clear hi
      gi_wp2_with (first | (gi_at_call 164; refine (callsIn_wide.2 (LY l _ _ _ hv0 hl)).mono ?_; rintro e w1 ⟨rfl, hb⟩; have hx := (hb.block w.heap.size (by simp)).trans (Boxed.new w 23 (.slice p l.length cap)); have hxc := Boxed.cell (Boxed.alloc hx (.cells #[.int .i64 0] 3))) | (gi_at_call 218; refine (JdG _ _ _ _ _ rfl _ _).mono ?_; rintro e w2 ⟨rfl, rfl⟩))
      have hsz1 := hb.size
      rw [S9] at hsz1
      have hBw : Below w.heap.size w w1 := (NZ w _).trans (hb.mono (by simp))
      have bN := Boxed.new w1 3 (.int .i64 0)
      have bL := Boxed.new (w1.alloc (.cells #[.int .i64 0] 3)) 23 (.slice p l.length cap)
      have bA := Boxed.new ((w1.alloc (.cells #[.int .i64 0] 3)).alloc (.cells #[.slice p l.length cap] 23)) 3 (.int .i64 k)
      rw [S9] at bL
      rw [S9, S9] at bA
      obtain ⟨W0, hW0⟩ : ∃ W0, ((w1.alloc (.cells #[.int .i64 0] 3)).alloc (.cells #[.slice p l.length cap] 23)).alloc (.cells #[.int .i64 k] 3) = W0 := ⟨_, rfl⟩
      have bN := (bN.alloc (.cells #[.slice p l.length cap] 23)).alloc (.cells #[.int .i64 k] 3)
      have bL := bL.alloc (.cells #[.int .i64 k] 3)
      have hB0 : Below w1.heap.size w1 W0 := by rw [← hW0]; exact (((Below.refl _ w1).alloc (BQ _) _).alloc (by simp) _).alloc (by simp; omega) _
      have hS0 : W0.heap.size = w1.heap.size + 3 := by rw [← hW0]; simp
      have hB1 : Below w.heap.size w W0 := hBw.trans (hB0.mono (by omega))
      have bX : Boxed W0 w.heap.size 23 (.slice p l.length cap) := (hB0.block _ (by omega)).trans hx
      rw [hW0] at bN bL bA ⊢
      refine kI (gf := 276) (lb := #[.pointer (some ⟨w1.heap.size + 1 + 1, 0, none⟩), .pointer (some ⟨w1.heap.size + 1, 0, none⟩)]) rfl (enters_of func276 (by kernel_rfl) rfl)
        (encs := fun x : Int => #[Value.int .i64 x]) (G := fun x _ => x ∈ AZ l k) (Kp := GI (fun j => j = w1.heap.size) (W0.heap.size + 2)) (N := (AZ l k).length) (R := E1 (AZ l k)) (fun _ => rfl)
        (fun W' hb' hs' => by
          have hkW : GI (fun j => j = w1.heap.size) W0.heap.size W0 W' := TP hb'
          have := Jzr l (.slice p l.length cap) hl (fun j => j = w1.heap.size) k (w1.heap.size + 1) (w1.heap.size + 1 + 1) W' hE (fun j hj => by omega) (by omega) (by omega)
            (hkW.cell (p := ⟨w1.heap.size + 1, 0, none⟩) (by show ¬ (_ = _); simp) bL.cell) (hkW.cell (p := ⟨w1.heap.size + 1 + 1, 0, none⟩) (by grind) bA.cell)
            ((hv.kept (gX (hB1.trans (hb'.mono hB1.size)))).mono (fun j hj => ⟨by omega, by have := hB1.size; omega⟩))
          rwa [hs'] at this)
        (fun h h' => h.trans h') (fun U q o o' h1 h2 h3 h4 _ => Od U q o o' h2 h3 h4)
        (fun pre U => Boxed U w1.heap.size 3 (.int .i64 (WW f l pre)) ∧ Boxed U w.heap.size 23 (.slice p l.length cap) ∧ Below w.heap.size w U)
        (fun _ _ _ => False)
        (OwnFrom.and (Own.from (boxed_own _ _ _) _) (OwnFrom.and (Own.from (boxed_own _ _ _) _) (ownFrom_below (BQ _) (by omega))))
        (fun _ _ _ _ _ hs _ _ => hs) (fun _ _ _ _ _ hs _ _ => hs)
        ⟨bN, bX, hB1⟩
        (fun x => { tmps := #[.slice p l.length cap, .int .i64 k, .pointer (some ⟨w.heap.size, 0, none⟩), undef, .int .i64 0, .pointer (some ⟨w1.heap.size, 0, none⟩), .int .i64 x, .slice p l.length cap, .int .i64 k, .int .i64 (Bc l k), .bool (decide (Bc l k < 0)), .slice p l.length cap, .int .i64 k, .func (.func 276) #[] #[.pointer (some ⟨w1.heap.size + 1 + 1, 0, none⟩), .pointer (some ⟨w1.heap.size + 1, 0, none⟩)], .int .i64 x, undef, undef, undef, undef, undef, undef, undef], defers := [] }) ?assign ?body ?done ?stop
      case assign =>
        intro lp x U K hK
        gi_wp2
        exact hK
      case body =>
        rintro lp pre x U ⟨e1, e2, hBU⟩ hgx hlen
        have hkm := Jg2 l k x hgx
        have hxf : (l.length : Int) ≤ x + f := by have := HI.out; omega
        have hvU : Ip U.drew (.slice p l.length cap) l := (hv.below hBU).below ((Below.refl _ _).drew)
        have g1 := e1.cell
        have g2 := e2.cell
        have f1 := e1.frozen
        have hmx : prog.follows .mixedOrders = true := by kernel_rfl
        clear hkm
        gi_wp2
        gi_region_with_o (gi_at_call 165; refine (CallsIn.inRound lp (callsIn_wide.2 (ih x _ _ (by omega) (.inl hxf) hvU))).mono ?_; rintro e w3 ⟨rfl, hb3⟩; have d0 := Boxed.cell ((hb3.block _ e1.lt).trans e1); have d1 := Boxed.frozen ((hb3.block _ e1.lt).trans e1))
        all_goals gi_wp2
        all_goals exact Joc (by omega) e1 e2 hBU hb3 (by first | (rw [Jgk]; omega) | rw [Jgk])
      case done =>
        rintro D ys U hD hR ⟨e1, e2, hBU⟩ hK
        have g1 := e1.cell
        have hR' : ys = AZ l k := hR
        subst hR'
        have hbd := JzB f l (AZ l k)
        gi_wp2
        refine ⟨by simp, .inl ⟨_, _, rfl, run_takeDeferred hK, ?_⟩⟩
        exact ⟨_, results_tmp rfl _ _ _, by rw [HY.out]; rfl, hBU.trans (belowK_b (w := w) (BQ _) U D _ _ (by omega) hK rfl rfl)⟩
      simp
end
section
open Go.RowKit
end
section
open Go.RowKit
end
section
open Go.RowKit
end
section
open Go.RowKit Go.Shelf
attribute [local go_sem] Oper.semAt_some
end
def JjX{a b:Ac Nd}{k:Nat}(h:a.take k=b.take k)(d:k<a.length)(c:k<b.length)(e:a[k]=b[k]):a.take (k+1)=b.take (k+1):=by
 rw[Ij d,Ij c,h,e]
def JgK{a b:Ac Nd}(h:a.take a.length=b.take a.length)(c:a.length=b.length):a=b:=by grind
def W9{a b:Bool}(h:a=b):Ending.returned (.bool a)= .returned (.bool b):=by rw[h]
set_option maxHeartbeats 2000000 in
def Jz6(a b:Ac Nd)(u v:Ap)(w:AA)(F:Ip w u a)(D:Ip w v b)(W:a.length<=4000000)(X:b.length<=4000000):
  Calls prog 111 #[u,v] w fun e O=>e= .returned (.bool (decide (a=b)))/\Below w.heap.size w O:=by
 obtain⟨K,R,y⟩:=F.slice;obtain⟨I,P,s⟩:=D.slice;subst y;subst s;by_cases o:a.length=b.length
 ·have d:((a.length:Int) !=(b.length:Int))=false:=by simp[o]
  have E:=Lib.hid o;clear o;go_enter func111,ntmps111;go_wp2
  go_loopw [5] (fun i wr=>∃k:Nat,i= .int .i64 k/\k<=a.length/\Hid (a.take k=b.take k)/\Below w.heap.size w wr) (fun i _=>a.length-(intOf i).toNat)
  case atStart=>exact⟨0,rfl,F9 _,Lib.hid rfl,Below.refl _ _⟩
  case round=>
   obtain⟨k,rfl,hk,ht,g⟩:=hrel;by_cases d:k<a.length
   ·have c:k<b.length:=by grind
    rcases F.open with⟨rfl,_⟩|⟨t,B,Q,q,M,G,n,j⟩
    ·simp at d
    rcases D.open with⟨rfl,_⟩|⟨x,z,T,r,L,S,m,h⟩
    ·simp at c
    obtain⟨rfl,rfl⟩:K=some ⟨t,B,none⟩/\R=Q:=by simpa using q
    obtain⟨rfl,rfl⟩:I=some ⟨x,z,none⟩/\P=T:=by simpa using r
    have g1:=(g.cell (p:=⟨t,B+k*2,none⟩) n).trans (j k d).1;have g2:=(g.cell (p:=⟨t,B+k*2+1,none⟩) n).trans (j k d).2;have U:=(g.cell (p:=⟨x,z+k*2,none⟩) m).trans (h k c).1;have V:=(g.cell (p:=⟨x,z+k*2+1,none⟩) m).trans (h k c).2;clear j h q r;have n1:(k:Int)<(a.length:Int):=by omega
    have Y:(k:Int)<(b.length:Int):=by omega
    by_cases l:a[k]=b[k]
    ·have C:(a[k].1==b[k].1)=true:=by simp[l]
     have J:(a[k].2==b[k].2)=true:=by simp[l]
     have N:=Lib.hid l;clear l;go_wp2
     go_quiet (fail)
     go_wp2
     go_roundw
     case rel=>exact⟨k+1,by go_num,by omega,Lib.hid (JjX ht.out d c N.out),NF g _⟩
     case measure=>simp[intOf];omega
    ·have Z:=Lib.hid l;rcases C:(a[k].1==b[k].1)with _|_
     ·have H:=C;clear l;go_wp2
      go_quiet (fail)
      go_wp2
      go_ret;exact⟨W9 (by grind),NF g _⟩
     ·rcases J:(a[k].2==b[k].2)with _|_
      ·clear l;go_wp2
       go_quiet (fail)
       go_wp2
       go_ret;exact⟨W9 (by grind),NF g _⟩
      grind
   ·go_wp2
    go_ret;exact⟨W9 (by rw[CZ];exact(JgK (by have:=ht.out;grind) E.out)),g⟩
 ·have d:((a.length:Int) !=(b.length:Int))=true:=by grind
  have E:=Lib.hid o;clear o;go_enter func111,ntmps111;go_wp2;go_ret;exact⟨W9 (by grind),Below.refl _ _⟩
set_option maxHeartbeats 2000000 in
def QeA(a b:Ac Nd)(u v:Ap)(w:AA)(F:Ip w u a)(D:Ip w v b)(W:a.length<=4000000)(X:b.length<=4000000):
  Calls prog 188 #[u,v] w fun e O=>e= .returned (.bool (decide (a=b)))/\Below w.heap.size w O:=by
 obtain⟨K,R,y⟩:=F.slice;obtain⟨I,P,s⟩:=D.slice;subst y;subst s;by_cases o:a.length=b.length
 ·have d:((a.length:Int) !=(b.length:Int))=false:=by simp[o]
  have E:=Lib.hid o;clear o;go_enter func188,ntmps188;go_wp2
  go_loopw [13] (fun i wr=>∃k:Nat,i= .int .i64 k/\k<=a.length/\Hid (a.take k=b.take k)/\Below w.heap.size w wr) (fun i _=>a.length-(intOf i).toNat)
  case atStart=>exact⟨0,rfl,F9 _,Lib.hid rfl,Below.refl _ _⟩
  case round=>
   obtain⟨k,rfl,hk,ht,g⟩:=hrel;by_cases d:k<a.length
   ·have c:k<b.length:=by grind
    rcases F.open with⟨rfl,_⟩|⟨t,B,Q,q,M,G,n,j⟩
    ·simp at d
    rcases D.open with⟨rfl,_⟩|⟨x,z,T,r,L,S,m,h⟩
    ·simp at c
    obtain⟨rfl,rfl⟩:K=some ⟨t,B,none⟩/\R=Q:=by simpa using q
    obtain⟨rfl,rfl⟩:I=some ⟨x,z,none⟩/\P=T:=by simpa using r
    have g1:=(g.cell (p:=⟨t,B+k*2,none⟩) n).trans (j k d).1;have g2:=(g.cell (p:=⟨t,B+k*2+1,none⟩) n).trans (j k d).2;have U:=(g.cell (p:=⟨x,z+k*2,none⟩) m).trans (h k c).1;have V:=(g.cell (p:=⟨x,z+k*2+1,none⟩) m).trans (h k c).2;clear j h q r;have n1:(k:Int)<(a.length:Int):=by omega
    have Y:(k:Int)<(b.length:Int):=by omega
    by_cases l:a[k]=b[k]
    ·have C:(a[k].1==b[k].1)=true:=by simp[l]
     have J:(a[k].2==b[k].2)=true:=by simp[l]
     have N:=Lib.hid l;clear l;go_wp2
     go_quiet (fail)
     go_wp2
     go_roundw
     case rel=>exact⟨k+1,by go_num,by omega,Lib.hid (JjX ht.out d c N.out),NF g _⟩
     case measure=>simp[intOf];omega
    ·have Z:=Lib.hid l;rcases C:(a[k].1==b[k].1)with _|_
     ·have H:=C;clear l;go_wp2
      go_quiet (fail)
      go_wp2
      go_ret;exact⟨W9 (by grind),NF g _⟩
     ·rcases J:(a[k].2==b[k].2)with _|_
      ·clear l;go_wp2
       go_quiet (fail)
       go_wp2
       go_ret;exact⟨W9 (by grind),NF g _⟩
      grind
   ·go_wp2
    go_ret;exact⟨W9 (by rw[CZ];exact(JgK (by have:=ht.out;grind) E.out)),g⟩
 ·have d:((a.length:Int) !=(b.length:Int))=true:=by grind
  have E:=Lib.hid o;clear o;go_enter func188,ntmps188;go_wp2;go_ret;exact⟨W9 (by grind),Below.refl _ _⟩
def QM(l:Ac Nd):Bool:=l.any fun x=>decide (ar x<0)
def JzZ{l:Ac Nd}{k:Nat}(h:QM (l.take k)=false)(a:k<l.length)(b:¬ar l[k]<0):QM (l.take (k+1))=false:=by
 simp only[QM]at h⊢;rw[Ij a,List.any_append,h];simpa using b
def JtA{l:Ac Nd}{k:Nat}(a:k<l.length)(b:ar l[k]<0):QM l=true:=by
 simp only[QM,List.any_eq_true];exact⟨l[k],Ih a,by simpa using b⟩
def JcC(x:Nd)(w:AA):
  Calls prog 162 #[.agg #[.int .i64 x.1,.int .i64 x.2]] w fun e a=>e= .returned (.bool (decide (ar x<0)))/\Below w.heap.size w a:=by
 have c:=oC x;go_enter func162,ntmps162;go_wp2_with (go_at_call 163;refine(yV x _).mono ?_;rintro e d ⟨rfl,b⟩);go_ret;exact⟨rfl,((Below.refl _ _).alloc (BQ _) _).trans (b.mono (by simp))⟩
set_option maxHeartbeats 2000000 in
def JkZ(l:Ac Nd)(v:Ap)(w:AA)(t:Ip w v l)(H:l.length<=4000000):
  Calls prog 216 #[v,.func (.func 162) #[] #[]] w fun e z=>(∃r:Int,e= .returned (.int .i64 r)/\(0<=r↔QM l=true))/\Below w.heap.size w z:=by
 obtain⟨y,D,m⟩:=t.slice;subst m;go_enter func216,ntmps216;go_wp2
 go_loopw [8] (fun i wr=>∃k:Nat,i= .int .i64 k/\k<=l.length/\Hid (QM (l.take k)=false)/\Below w.heap.size w wr) (fun i _=>l.length-(intOf i).toNat)
 case atStart=>exact⟨0,rfl,F9 _,Lib.hid rfl,Below.refl _ _⟩
 case round=>
  obtain⟨k,rfl,G,ht,b⟩:=hrel;by_cases a:k<l.length
  ·rcases t.open with⟨rfl,_⟩|⟨n,s,E,j,x,u,g,c⟩
   ·simp at a
   obtain⟨rfl,rfl⟩:y=some ⟨n,s,none⟩/\D=E:=by simpa using j
   have J:=(b.cell (p:=⟨n,s+k*2,none⟩) g).trans (c k a).1;have F:=(b.cell (p:=⟨n,s+k*2+1,none⟩) g).trans (c k a).2;clear c j;have I:(k:Int)<(l.length:Int):=by omega
   by_cases d:ar l[k]<0
   ·have o:=Lib.hid d;have B:decide (ar l[k]<0)=true:=by simp[d]
    clear d;go_wp2_with (go_at_call 162;refine(JcC l[k] _).mono ?_;rintro e C ⟨rfl,q⟩);go_ret;exact⟨⟨k,rfl,⟨fun _=>JtA a o.out,fun _=>by omega⟩⟩,b.trans (q.mono b.size)⟩
   ·have o:=Lib.hid d;have B:decide (ar l[k]<0)=false:=by simp[d]
    clear d;go_wp2_with (go_at_call 162;refine(JcC l[k] _).mono ?_;rintro e C ⟨rfl,q⟩)
    go_roundw
    case rel=>exact⟨k+1,by go_num,by omega,Lib.hid (JzZ ht.out a (Int.not_lt.2 o.out)),b.trans (q.mono b.size)⟩
    case measure=>simp[intOf];omega
  ·go_wp2
   go_ret;exact⟨⟨-1,rfl,by constructor;(intro h;omega);(intro h;have:=ht.out;rw[Q4 (by omega),h]at this;cases this)⟩,b⟩
def Ki(l:Ac Nd)(v:Ap)(w:AA)(c:Ip w v l)(h:l.length<=4000000):
  Calls prog 161 #[v,.func (.func 162) #[] #[]] w fun e d=>e= .returned (.bool (QM l))/\Below w.heap.size w d:=by
 go_enter func161,ntmps161;go_wp2_with (fail);refine(JkZ l v w c h).mono ?_;rintro e i ⟨⟨r,rfl,a⟩,b⟩;have g:=Lib.hid a;clear a;go_wp2_with (fail);go_ret;exact⟨W9 (by have:=g.out;rw[rI,decide_eq_true_iff];exact this),b⟩
def I4(l:Ac Nd):Int:=
 if l.length=0 then 10 else if 200<l.length then 4 else if QM l=true then 11 else if Bc l 0≠l.length then 12 else if 30<Ny l.length l 0 then 13 else 0
set_option maxHeartbeats 2000000 in
def QcK(l:Ac Nd)(v:Ap)(w:AA)(o:Ip w v l)(n:l.length<=4000000):
  Calls prog 94 #[v] w fun e z=>e= .returned (.int .i64 (I4 l))/\Below w.heap.size w z:=by
 obtain⟨p,cap,s⟩:=o.slice;subst s;by_cases d:l.length=0
 ·have B:((l.length:Int)==0)=true:=by simp[d]
  have i:Hid (I4 l=10):=Lib.hid (by rw[I4,Aw d]);clear d;go_enter func94,ntmps94;go_wp2_with (fail);go_ret;exact⟨by rw[i.out];rfl,Below.refl _ _⟩
 have B:((l.length:Int)==0)=false:=by simp[d]
 by_cases k:200<l.length
 ·have i:Hid (I4 l=4):=Lib.hid (by rw[I4,Am d,Aw k]);clear d;have t2:(200:Int)<(l.length:Int):=by omega
  clear k;go_enter func94,ntmps94;go_wp2_with (fail);go_ret;exact⟨by rw[i.out];rfl,Below.refl _ _⟩
 have t2:¬(200:Int)<(l.length:Int):=by omega
 rcases t:QM l with _|_
 case true=>
  have i:Hid (I4 l=11):=Lib.hid (by rw[I4,Am d,Am k,Aw t]);clear d k;go_enter func94,ntmps94;go_wp2_with (fail);refine(Ki l _ w o n).mono ?_;rintro e r ⟨rfl,h⟩;go_wp2_with (fail);go_ret;exact⟨by rw[i.out];rfl,h⟩
 have g:¬QM l=true:=by rw[t];simp
 have D:=UA l 0;by_cases j:Bc l 0=l.length
 ·have x:(Bc l 0 !=(l.length:Int))=false:=by simp[j]
  have C:=JgT l.length l 0;by_cases u:30<Ny l.length l 0
  ·have i:Hid (I4 l=13):=Lib.hid (by rw[I4,Am d,Am k,Am g,Am (by simpa using j),Aw u]);have y:=Lib.hid j;clear d k j g;go_enter func94,ntmps94;go_wp2_with (fail);refine(Ki l _ w o n).mono ?_;rintro e r ⟨rfl,h⟩;have a:=o.below h;go_wp2_with (fail);refine(LY l _ _ r a n).mono ?_;rintro e w2 ⟨rfl,b⟩;have m:=a.below b;have c:=h.trans (b.mono h.size);go_wp2_with (fail);refine(Jbn l n l.length 0 _ w2 (by omega) (.inl (by omega)) m).mono ?_;rintro e w3 ⟨rfl,q⟩;go_wp2_with (fail);go_ret;exact⟨by rw[i.out];rfl,c.trans (q.mono c.size)⟩
  ·have i:Hid (I4 l=0):=Lib.hid (by rw[I4,Am d,Am k,Am g,Am (by simpa using j),Am u]);have y:=Lib.hid j;clear d k j g;go_enter func94,ntmps94;go_wp2_with (fail);refine(Ki l _ w o n).mono ?_;rintro e r ⟨rfl,h⟩;have a:=o.below h;go_wp2_with (fail);refine(LY l _ _ r a n).mono ?_;rintro e w2 ⟨rfl,b⟩;have m:=a.below b;have c:=h.trans (b.mono h.size);go_wp2_with (fail);refine(Jbn l n l.length 0 _ w2 (by omega) (.inl (by omega)) m).mono ?_;rintro e w3 ⟨rfl,q⟩;go_wp2_with (fail);go_ret;exact⟨by rw[i.out];rfl,c.trans (q.mono c.size)⟩
 ·have x:(Bc l 0 !=(l.length:Int))=true:=by simp[j]
  have i:Hid (I4 l=12):=Lib.hid (by rw[I4,Am d,Am k,Am g,Aw j]);clear d k j g;go_enter func94,ntmps94;go_wp2_with (fail);refine(Ki l _ w o n).mono ?_;rintro e r ⟨rfl,h⟩;have a:=o.below h;go_wp2_with (fail);refine(LY l _ _ r a n).mono ?_;rintro e w2 ⟨rfl,b⟩;have m:=a.below b;have c:=h.trans (b.mono h.size);go_wp2_with (fail);go_ret;exact⟨by rw[i.out];rfl,c⟩
def wQ:(Aa.info? 44).map (fun i=>(i.zero,i.size,i.bytes))=some (some (.agg #[.int .i64 0,.int .i64 0]),2,16):=by kernel_rfl
def Qd7(n:Nat)(s:n<=20000000)(w:AA):
  Calls prog 373 #[.slice none 0 0,.int .i64 n] w fun e k=>∃u,e= .returned u/\k.ownsRow w.heap.size 44 2 u 0 []/\Below w.heap.size w k:=by
 obtain⟨m,r,i,j,h⟩:=info_parts wQ;by_cases p:n=0
 ·subst p;go_enter func373,ntmps373;go_wp2;go_ret;exact⟨_,rfl,World.ownsRow_nil _ _ _ _,Below.refl _ _⟩
 ·have a:∀g,(Builtin.append_ #[23,3] g #[.slice none 0 0,.int .i64 (n:Int)]).run prog w=
    .ok (.slice (some ⟨w.heap.size,0,none⟩) n (grownCap w n 0 44)) (w.drew.alloc (.cells (Builtin.zeroCells (Value.agg #[.int .i64 0,.int .i64 0]).cells n++Builtin.zeroCells (Value.agg #[.int .i64 0,.int .i64 0]).cells (grownCap w n 0 44 -n)) 44)):=fun g=>
   Lib.run_append_nil_zeros w 23 3 g 44 m _ .i64 .i64 rfl rfl r i n (by omega) (by rw[j];decide) (by omega) (by rw[h];omega)
  have o:=grownCap_ge w n 0 44;have b:=grownCap_le_maxLen w n 0 44 (by unfold maxLen;omega);obtain⟨G,c⟩:∃G,G=grownCap w n 0 44 :=⟨_,rfl⟩;rw[<-c]at a o b;have hs:(Builtin.zeroCells (Value.agg #[.int .i64 0,.int .i64 0]).cells n++Builtin.zeroCells (Value.agg #[.int .i64 0,.int .i64 0]).cells (G-n)).size=G*2:=by
   simp[Builtin.zeroCells,Value.cells];omega
  obtain⟨cs,d⟩:∃cs,cs=Builtin.zeroCells (Value.agg #[.int .i64 0,.int .i64 0]).cells n++Builtin.zeroCells (Value.agg #[.int .i64 0,.int .i64 0]).cells (G-n):=⟨_,rfl⟩;rw[<-d]at a hs;have q:G<=9223372036854775807:=by unfold maxLen at b;omega
  have l:(0:Int)<(n:Int):=by omega
  clear d c;go_enter func373,ntmps373;go_wp2_with (at_builtin;refine Lib.wpList_append_run _ rfl _ _ _ _ rfl _ _ rfl rfl _ _ (a _) ?_);go_ret;exact⟨_,rfl,World.ownsRow_made (w:=w.drew) cs G (BQ _) b hs,((Below.refl _ w).drew).alloc (BQ _) _⟩
def IP(a:Ac (Ap×Ac Nd)):Ac Nd:=a.flatMap Prod.snd
def JeZ(a:Ac (Ap×Ac Nd))(k:Nat)(h:k<a.length):IP (a.take (k+1))=IP (a.take k)++a[k].2:=by
 rw[IP,Ij h,eU];simp[IP]
def JdE(a:Ac (Ap×Ac Nd))(k:Nat):(IP (a.take k)).length<=(IP a).length:=by
 conv=>rhs;rw[<-Zd k a,IP,eU,DC]
 exact Nat.le_add_right _ _
def E2(a b:Ac Nd):Gz (a++b)=Gz a++Gz b:=by simp[Gz]
set_option maxHeartbeats 4000000 in
def QcN(a:Ac (Ap×Ac Nd))(v:Ap)(w:AA)(L:Gp (fun k=>k<w.heap.size) w v a.length (a.map Prod.fst))(hp:∀x∈a,Ip w x.1 x.2)(hl:(IP a).length<=12000000)(hn:a.length<=1000):
  Calls prog 365 #[v] w fun e O=>∃u,e= .returned u/\O.ownsRow w.heap.size 44 2 u (IP a).length (Gz (IP a))/\Below w.heap.size w O:=by
 obtain⟨S,W,G,I,F⟩:=info_parts wQ;obtain⟨P,cv,K⟩:∃(p:Af Addr) (c:Nat),v= .slice p a.length c:=by
  rcases L with⟨p,c,h,M,_⟩|⟨b,o,c,h,_⟩
  ·exact⟨p,c,by rw[h,M]⟩
  ·exact⟨_,_,h⟩
 subst K;have d:∀k (D:k<a.length),∃(b o p':Nat),P=some ⟨b,o,none⟩/\b<w.heap.size/\w.cell? ⟨b,o+k,none⟩=some a[k].1:=by
  intro k D;rcases L with⟨p,c,h,M,_⟩|⟨b,o,c,h,h1,h2,X,V⟩
  ·omega
  ·refine⟨b,o,0,by simp at h;exact h.1,X,?_⟩;simpa[D]using V k (by simpa using D)
 go_enter func365,ntmps365;go_wp2
 go_loopw [3,11] (fun t i wr=>∃k:Nat,i= .int .i64 k/\k<=a.length/\Hid (t= .int .i64 (IP (a.take k)).length)/\wr=w) (fun _ i _=>a.length-(intOf i).toNat)
 case atStart=>exact⟨0,rfl,F9 _,Lib.hid rfl,rfl⟩
 case round=>
  obtain⟨k,rfl,D,ht,q⟩:=hrel;obtain rfl:=ht.out
  replace q:=q.symm
  subst q;by_cases g:k<a.length
  ·obtain⟨b,o,_,rfl,N,C⟩:=d k g;obtain⟨Q,T,n⟩:=(hp a[k] (Ih g)).slice;rw[n]at C;have E:=JeZ a k g;have z:=JdE a (k+1);have l:(IP (a.take (k+1))).length=(IP (a.take k)).length+a[k].2.length:=by rw[E,DC]
   have J:=Lib.hid l;rw[l]at z;have Y:(k:Int)<(a.length:Int):=by omega
   clear E l d;go_wp2
   go_roundw
   case rel=>exact⟨k+1,by go_num,by omega,Lib.hid (congrArg (Value.int .i64) (by rw[J.out];omega)),trivial⟩
   case measure=>simp[intOf];omega
  ·obtain rfl:k=a.length:=by omega
   rw[II];go_wp2_with (fail);refine(Qd7 (IP a).length (by omega) _).mono ?_;rintro e w1 ⟨u,rfl,R,N⟩;go_wp2_with (fail)
   go_loopw [6,27] (fun u i wr=>∃k:Nat,i= .int .i64 k/\k<=a.length/\wr.ownsRow w.heap.size 44 2 u (IP (a.take k)).length (Gz (IP (a.take k)))/\Below w.heap.size w wr) (fun _ i _=>a.length-(intOf i).toNat)
   case atStart=>exact⟨0,rfl,F9 _,R,N⟩
   case round=>
    obtain⟨k,rfl,D,m,B⟩:=hrel;by_cases g:k<a.length
    ·obtain⟨b,o,_,rfl,H,C⟩:=d k g;have s:=(hp a[k] (Ih g)).below B;obtain⟨Q,T,n⟩:=s.slice;have C:=(B.cell (p:=⟨b,o+k,none⟩) H).trans C;rw[n]at C s;have E:=Lib.hid (JeZ a k g);have z:=JdE a (k+1);have l:(IP (a.take (k+1))).length=(IP (a.take k)).length+a[k].2.length:=by rw[E.out,DC]
     have J:=Lib.hid l;rw[l]at z;have Y:(k:Int)<(a.length:Int):=by omega
     clear l d;go_wp2_with (at_builtin;refine PA rfl _ _ 23 rfl w.heap.size 44 S (.agg #[.int .i64 0,.int .i64 0]) 2 16 underlying23 W G I F rfl (by decide) _ _ _ rfl m _ a[k].2.length _ rfl s (by rw[Wi];omega) (Pk _) (by unfold maxLen;omega) (by omega) B.size ?_;intro Z w3 y r)
     go_roundw
     case rel=>exact⟨k+1,by go_num,by omega,by rw[J.out,E.out,E2];exact y,B.grown r B.size (fun j U=>(m.lt j U).1)⟩
     case measure=>simp[intOf];omega
    ·obtain rfl:k=a.length:=by omega
     rw[II]at m;go_wp2_with (fail);go_ret;exact⟨_,rfl,m,B⟩
def Fb(l:Ac Nd)(i:Int):Ac Nd:=if Bc l i<0 then[]else(l.take (Bc l i).toNat).drop i.toNat
def I5(l:Ac Nd)(i:Int)(r:Ac Nd):Ac Nd:=if Bc l i<0 then l else l.take i.toNat++r++l.drop (Bc l i).toNat
def oA(a:Ac (Ap×Ac Nd))(v:Ap)(w:AA)(d:Gp (fun k=>k<w.heap.size) w v a.length (a.map Prod.fst))(hp:∀x∈a,Ip w x.1 x.2)(g:(IP a).length<=12000000)(c:a.length<=1000):
  Calls prog 339 #[v] w fun e b=>∃u,e= .returned u/\b.ownsRow w.heap.size 44 2 u (IP a).length (Gz (IP a))/\Below w.heap.size w b:=by
 go_enter func339,ntmps339;go_wp2_with (fail);refine(QcN a v w d hp g c).mono ?_;rintro e j ⟨u,rfl,h,i⟩;go_wp2_with (fail);go_ret;simp_all
def S6{w:AA}{base:Nat}{e:AQ}{v:Ap}{l:Ac Nd}(h:w.ownsRow base e 2 v l.length (Gz l)):E8 (fun k=>base<=k/\k<w.heap.size) w v l:=by
 have d:=Wi l;by_cases a:l.length=0
 ·refine .inl ?_;rcases h.2 with⟨rfl,_⟩|⟨g,cap,c,rfl,_⟩
  ·exact⟨none,0,rfl,a,NK.1 (by omega),fun _=>rfl⟩
  ·exact⟨some ⟨g,0,none⟩,cap,by rw[a],a,NK.1 (by omega),fun h=>by cases h⟩
 ·have b:=h.lt;rcases h.2 with⟨_,f⟩|⟨g,cap,c,rfl,m,o,i,_⟩
  ·exact absurd f a
  ·refine .inr ⟨g,0,cap,rfl,by omega,i,⟨m,(b g rfl).2⟩,fun j n=> ?_⟩;have:=h.cellAt j (by omega);simpa using this
def JzH{S:Nat->Prop}{w:AA}{b o cap:Nat}{l:Ac Nd}(a:0<l.length)(c:l.length<=cap)(f:S b)(h:∀k (g:k<l.length),w.cell? ⟨b,o+k*2,none⟩=some (.int .i64 l[k].1)/\w.cell? ⟨b,o+k*2+1,none⟩=some (.int .i64 l[k].2)):
  E8 S w (.slice (some ⟨b,o,none⟩) l.length cap) l:= .inr ⟨b,o,cap,rfl,a,c,f,fun j e=>by
 rw[Wi]at e;obtain⟨q,d⟩:∃q,j=2*q\/j=2*q+1:=⟨j/2,by omega⟩;rcases d with rfl|rfl
 ·rw[fX l q (by omega),SQ];grind
 ·rw[SD l q (by omega),SQ,<-Nat.add_assoc];grind⟩
def E8.sub{S:Nat->Prop}{w:AA}{b o cap:Nat}{l:Ac Nd}(c:l.length<=cap)(g:S b)(h:∀k (f:k<l.length),w.cell? ⟨b,o+k*2,none⟩=some (.int .i64 l[k].1)/\w.cell? ⟨b,o+k*2+1,none⟩=some (.int .i64 l[k].2))
  (i j:Nat) (d:i<=j) (m:j<=l.length):E8 S w (.slice (some ⟨b,o+i*2,none⟩) (j-i) (cap-i)) ((l.take j).drop i):=by
 have a:((l.take j).drop i).length=j-i:=by simp;omega
 by_cases e:j=i
 ·subst e;rw[oW,rK (by simp;omega)];exact .inl ⟨_,_,rfl,rfl,rfl,fun h=>by cases h⟩
 ·rw[<-a];refine JzH (by omega) (by omega) g fun k f=> ?_
  grind
set_option maxHeartbeats 2000000 in
def JcX(l:Ac Nd)(i:Int)(v:Ap)(w:AA)(z:Ip w v l)(I:l.length<=4000000):
  Calls prog 328 #[v,.int .i64 i] w fun e B=>∃u,e= .returned u/\E8 (fun k=>w.heap.size<=k/\k<B.heap.size) B u (Fb l i)/\Below w.heap.size w B:=by
 rcases XG l i with p|p
 ·have y:Bc l i<0:=by omega
  have D:Hid (Fb l i=[]):=Lib.hid (by rw[Fb,Aw y]);clear p;go_enter func328,ntmps328;go_wp2_with (go_at_call 164;refine(LY l _ _ _ z I).mono ?_;rintro e g ⟨rfl,d⟩);go_ret;exact⟨_,rfl,by rw[D.out];exact .inl ⟨none,0,rfl,rfl,rfl,fun _=>rfl⟩,d⟩
 ·obtain⟨F,r⟩:=F6 l i p;obtain⟨k,rfl⟩:=Fq F;have n:¬Bc l k<0:=by omega
  have q:=UA l k;have E:=PH l k p;obtain⟨m,H⟩:=Fq p;have D:Hid (Fb l k=(l.take m).drop k):=Lib.hid (by rw[Fb,Am n,H];rfl);rw[H]at q E;have s:k<l.length:=by simpa using r
  rcases z.open with⟨rfl,_⟩|⟨b,o,cap,rfl,J,c,h,a⟩
  ·simp at s
  go_enter func328,ntmps328;go_wp2_with (go_at_call 164;refine(LY l _ _ _ z I).mono ?_;rintro e g ⟨rfl,d⟩;rw[H]);have K:Ip (g.alloc (.cells #[.slice (some ⟨b,o+k*2,none⟩) (m-k) (cap-k)] 23)) (.slice (some ⟨b,o+k*2,none⟩) (m-k) (cap-k)) ((l.take m).drop k):=
   ((E8.sub c (S:=(· <w.heap.size)) h a k m (by omega) (by omega)).below d).below (NZ g _)
  have M:=E8.sub c (S:=(· <w.heap.size)) h a k m (by omega) (by omega);refine(oA [(.slice (some ⟨b,o+k*2,none⟩) (m-k) (cap-k),(l.take m).drop k)] _ _ (Jhn g _ 23) (fun x P=>by grind) (by simp[IP];omega) (by simp)).mono ?_;rintro e w2 ⟨u,rfl,N,C⟩;have G:Below w.heap.size w w2:=(d.trans ((NZ g _).mono d.size)).trans (C.mono (by simp;have:=d.size;omega));have O:=d.size;go_wp2_with (fail);go_ret;refine⟨_,rfl,?_,G⟩;rw[D.out];exact(S6 (by simpa[IP]using N)).mono (fun j L=>⟨by omega,L.2⟩)
def JqF(w:AA)(a b c:Ap)(t:AQ):Gp (fun k=>k<(w.alloc (.cells #[a,b,c] t)).heap.size) (w.alloc (.cells #[a,b,c] t)) (.slice (some ⟨w.heap.size,0,none⟩) 3 3) 3 [a,b,c]:=by
 refine .inr ⟨w.heap.size,0,3,rfl,by omega,by omega,by simp,fun j d=> ?_⟩;simp
def Qer(w:AA)(a b c:Ap)(t:AQ):Gp (fun k=>k<(w.alloc (.cells #[a,b,c] t)).drew.heap.size) (w.alloc (.cells #[a,b,c] t)).drew (.slice (some ⟨w.heap.size,0,none⟩) 3 3) 3 [a,b,c]:=
 (JqF w a b c t).kept (tA (Kept.refl _ _))
set_option maxHeartbeats 4000000 in
def tO(l r:Ac Nd)(i:Int)(v u:Ap)(w:AA)(D:Ip w v l)(hu:Ip w u r)(hl:l.length<=4000000)(hr:r.length<=4000000):
  Calls prog 293 #[v,.int .i64 i,u] w fun e W=>∃x,e= .returned x/\E8 (fun k=>w.heap.size<=k/\k<W.heap.size) W x (I5 l i r)/\Below w.heap.size w W:=by
 obtain⟨y,B,Q⟩:=hu.slice;subst Q;refine callsIn_wide.1 (?_:CallsIn Fence.wide 1 _ _ _ _ _);refine callsIn_of_wp func293 rfl trivial ?_ rfl;simp only[ntmps293,SX,Ej,Hf,Nat.reduceAdd,Nat.reduceSub,Zf,Zg,Zh,Zi,JO,Jd];rcases XG l i with H|H
 ·have K:Bc l i<0:=by omega
  have X:Hid (I5 l i r=l):=Lib.hid (by rw[I5,Aw K]);clear H;obtain⟨p,cap,V⟩:=D.slice;subst V
  gi_wp2_with (gi_at_call 164;refine(callsIn_wide.2 (LY l _ _ _ D hl)).mono ?_;rintro e a ⟨rfl,n⟩)
  have ab:=(D.below n).below (NZ a (.cells #[.slice p l.length cap] 23));refine(callsIn_wide.2 (oA [(.slice p l.length cap,l)] _ _ (Jhn a _ 23) (fun x L=>by grind) (by simp[IP];omega) (by simp))).mono ?_;rintro e w2 ⟨x,rfl,d,C⟩;have O:Below w.heap.size w w2:=(n.trans ((NZ a _).mono n.size)).trans (C.mono (by simp;have:=n.size;omega));have hz:=n.size
  gi_wp2_with (fail)
  go_ret;refine⟨_,rfl,?_,O⟩;rw[X.out];exact(S6 (by simpa[IP]using d)).mono (fun j T=>⟨by omega,T.2⟩)
 ·obtain⟨Y,J⟩:=F6 l i H;obtain⟨k,rfl⟩:=Fq Y;have G:¬Bc l k<0:=by omega
  have I:=UA l k;have N:=PH l k H;obtain⟨m,P⟩:=Fq H;have X:Hid (I5 l k r=l.take k++r++l.drop m):=Lib.hid (by rw[I5,Am G,P];rfl);rw[P]at I N;have R:k<l.length:=by simpa using J
  rcases D.open with⟨rfl,_⟩|⟨b,o,cap,rfl,aa,s,E,g⟩
  ·simp at R
  have ac:prog.follows .mixedOrders=true:=by kernel_rfl
  gi_wp2_with (gi_at_call 164;refine(callsIn_wide.2 (LY l _ _ _ D hl)).mono ?_;rintro e a ⟨rfl,n⟩;rw[P])
  have b1:(k:Int)<=(cap:Int):=by omega
  have b2:(m:Int)<=(l.length:Int):=by omega
  have b3:¬(cap:Int)<(k:Int):=by omega
  have b4:¬(l.length:Int)<(m:Int):=by omega
  have b5:¬(k:Int)<0:=by omega
  have b6:(k:Int)<=(l.length:Int):=by omega
  have b7:k<=cap:=by omega
  have b8:m<=l.length:=by omega
  have s1:Ip w (.slice (some ⟨b,o,none⟩) k cap) (l.take k):=by simpa using E8.sub s (S:=(· <w.heap.size)) E g 0 k (by omega) (by omega)
  have s3:Ip w (.slice (if cap=m then some ⟨b,o,none⟩else some ⟨b,o+m*2,none⟩) (l.length-m) (cap-m)) (l.drop m):=by
   by_cases F:cap=m
   ·rw[Aw F,rK (by omega),show l.length-m=0 from by omega];exact .inl ⟨_,_,rfl,rfl,rfl,fun h=>by cases h⟩
   ·rw[Am F];simpa using E8.sub s (S:=(· <w.heap.size)) E g m l.length (by omega) (by omega)
  obtain⟨z,M⟩:∃q:Af Addr,(if cap=m then some ⟨b,o,none⟩else some ⟨b,o+m*2,none⟩)=q:=⟨_,rfl⟩;rw[M]at s3;have c:Below w.heap.size w ((a.alloc (.cells #[.slice (some ⟨b,o,none⟩) k cap,.slice y r.length B,.slice z (l.length-m) (cap-m)] 23)).drew):=n.trans ((((Below.refl _ a).alloc (BQ _) _).drew).mono n.size);have Z:∀x∈[(Value.slice (some ⟨b,o,none⟩) k cap,l.take k),(.slice y r.length B,r),(.slice z (l.length-m) (cap-m),l.drop m)],Ip ((a.alloc (.cells #[.slice (some ⟨b,o,none⟩) k cap,.slice y r.length B,.slice z (l.length-m) (cap-m)] 23)).drew) x.1 x.2:=by
   intro x L;simp only[FY,QZ,or_false]at L;rcases L with rfl|rfl|rfl
   ·exact s1.below c
   ·exact hu.below c
   ·exact s3.below c
  have U:(IP [(Value.slice (some ⟨b,o,none⟩) k cap,l.take k),(.slice y r.length B,r),(.slice z (l.length-m) (cap-m),l.drop m)]).length<=12000000:=by simp[IP];omega
  have h3:Gp (fun jj=>jj<((a.alloc (.cells #[.slice (some ⟨b,o,none⟩) k cap,.slice y r.length B,.slice z (l.length-m) (cap-m)] 23)).drew).heap.size) ((a.alloc (.cells #[.slice (some ⟨b,o,none⟩) k cap,.slice y r.length B,.slice z (l.length-m) (cap-m)] 23)).drew) (.slice (some ⟨a.heap.size,0,none⟩) 3 3) 3 [.slice (some ⟨b,o,none⟩) k cap,.slice y r.length B,.slice z (l.length-m) (cap-m)]:=Qer a _ _ _ 23;have hz:=c.size
  gi_region_with_o (gi_at_call 339;go_loud (refine(callsIn_wide.2 (oA [(Value.slice (some ⟨b,o,none⟩) k cap,l.take k),(.slice y r.length B,r),(.slice z (l.length-m) (cap-m),l.drop m)] _ _ h3 Z U (by simp))).mono ?_;rintro e w2 ⟨x,rfl,d,C⟩))
  all_goals gi_wp2
  all_goals go_ret
  all_goals refine⟨x,rfl,?_,c.trans (C.mono hz)⟩
  all_goals rw[X.out]
  all_goals exact(S6 (base:=a.heap.size+1) (v:=x) (by simpa[IP]using d)).mono (fun j T=>⟨by have:=n.size;omega,T.2⟩)
def JbB{a b:Ac Int}{k:Nat}(h:a.take k=b.take k)(d:k<a.length)(c:k<b.length)(e:a[k]=b[k]):a.take (k+1)=b.take (k+1):=by
 rw[Ij d,Ij c,h,e]
def QaL{a b:Ac Int}(h:a.take a.length=b.take a.length)(c:a.length=b.length):a=b:=by
 rwa[II,c,II]at h
def pH{a b:Bool}(h:a=b):Ending.returned (.bool a)= .returned (.bool b):=by rw[h]
set_option maxHeartbeats 1000000 in
def Qfh(a b:Ac Int)(u v:Ap)(w:AA)(G:Uc w u a)(D:Uc w v b)(V:a.length<=4000000)(W:b.length<=4000000):
  Calls prog 110 #[u,v] w fun e O=>e= .returned (.bool (decide (a=b)))/\Below w.heap.size w O:=by
 obtain⟨K,S,B⟩:=G.slice;obtain⟨J,P,s⟩:=D.slice;subst B;subst s;by_cases n:a.length=b.length
 ·have c:((a.length:Int) !=(b.length:Int))=false:=by simp[n]
  have r:=Lib.hid n;clear n;go_enter func110,ntmps110;go_wp2
  go_loopw [5] (fun i wr=>∃k:Nat,i= .int .i64 k/\k<=a.length/\Hid (a.take k=b.take k)/\Below w.heap.size w wr) (fun i _=>a.length-(intOf i).toNat)
  case atStart=>exact⟨0,rfl,F9 _,Lib.hid rfl,Below.refl _ _⟩
  case round=>
   obtain⟨k,rfl,Y,ht,j⟩:=hrel;by_cases c:k<a.length
   ·have d:k<b.length:=by have:=r.out;omega
    rcases G.open with⟨rfl,_⟩|⟨C,H,Q,o,N,I,y,m⟩
    ·simp at c
    rcases D.open with⟨rfl,_⟩|⟨E,F,U,q,M,T,t,l⟩
    ·simp at d
    obtain⟨rfl,rfl⟩:K=some ⟨C,H,none⟩/\S=Q:=by simpa using o
    obtain⟨rfl,rfl⟩:J=some ⟨E,F,none⟩/\P=U:=by simpa using q
    have Z:=(j.cell (p:=⟨C,H+k,none⟩) y).trans (m k c);have X:=(j.cell (p:=⟨E,F+k,none⟩) t).trans (l k d);clear m l o q;by_cases g:a[k]=b[k]
    ·have x:(a[k] !=b[k])=false:=by simp[g]
     have z:=Lib.hid g;clear g;have R:(k:Int)<(a.length:Int):=by omega
     have L:(k:Int)<(b.length:Int):=by omega
     go_wp2
     go_quiet (fail)
     go_wp2
     go_roundw
     case rel=>exact⟨k+1,by go_num,by omega,Lib.hid (JbB ht.out c d z.out),NF j _⟩
     case measure=>simp[intOf];omega
    ·have x:(a[k] !=b[k])=true:=by simp[g]
     have z:=Lib.hid g;clear g;have R:(k:Int)<(a.length:Int):=by omega
     have L:(k:Int)<(b.length:Int):=by omega
     go_wp2
     go_quiet (fail)
     go_wp2
     go_ret;exact⟨pH (by rw[Dc];rintro rfl;exact z.out rfl),NF j _⟩
   ·go_wp2
    go_ret;exact⟨pH (by rw[CZ];exact(QaL (by have:=ht.out;rwa[show k=a.length from by omega]at this) r.out)),j⟩
 ·have c:((a.length:Int) !=(b.length:Int))=true:=by rw[bne_iff_ne];omega
  have r:=Lib.hid n;clear n;go_enter func110,ntmps110;go_wp2;go_ret;exact⟨pH (by rw[Dc];intro h;exact r.out (by rw[h])),Below.refl _ _⟩
def VQ:Ac D->Af D
 |[b,a]=>(Gv b).bind fun l=>(Dz a).bind fun i=>if l.length<=3000000 then some (iD (Bc l i))else none
 |_=>none
def nW:Bz Aa 164 VQ:=by
 refine⟨⟨_,func164,by decide,rfl⟩,fun ds d a S vs W n j=> ?_⟩;unfold VQ at a;split at a
 ·rename_i o p;rcases c:Gv o with _|l
  ·grind
  rw[c,BR]at a;rcases b:Dz p with _|i
  ·grind
  rw[b,BR]at a;split at a;rotate_left
  ·cases a
  rename_i G;cases a;simp only[Au]at j;obtain⟨g,s,rfl,r,⟨m,u,rfl,k,rfl⟩⟩:=j;have h:=(Nq c r).mono n;obtain rfl:=Vz b k;refine(LY l i g W h (by omega)).mono ?_;rintro e t ⟨rfl,q⟩;exact⟨_,rfl,by simp only[Rep],q⟩
 ·cases a
def Rj:Ac D->Af D
 |[b,a]=>(Gv b).bind fun l=>(Dz a).bind fun i=>if l.length<=3000000 then some (AL (AZ l i))else none
 |_=>none
def JrC:Bz Aa 219 Rj:=by
 refine⟨⟨_,func219,by decide,rfl⟩,fun ds d a S vs W p j=> ?_⟩;unfold Rj at a;split at a
 ·rename_i r s;rcases c:Gv r with _|l
  ·grind
  rw[c,BR]at a;rcases b:Dz s with _|i
  ·grind
  rw[b,BR]at a;split at a;rotate_left
  ·cases a
  rename_i G;cases a;simp only[Au]at j;obtain⟨g,w,rfl,v,⟨n,y,rfl,m,rfl⟩⟩:=j;have h:=(Nq c v).mono p;obtain rfl:=Vz b m;refine(nT l i g W h (by omega)).mono ?_;rintro e x ⟨u,rfl,q,t⟩;exact⟨u,rfl,lN (IntsIn.mono q (fun k o=> .inr o)),t⟩
 ·cases a
def Vt:Ac D->Af D
 |[b,a]=>(Gv b).bind fun l=>(Dz a).bind fun i=>if l.length<=3000000 then some (A8 (Fb l i))else none
 |_=>none
def Juv:Bz Aa 328 Vt:=by
 refine⟨⟨_,func328,by decide,rfl⟩,fun ds d a S vs W p j=> ?_⟩;unfold Vt at a;split at a
 ·rename_i r s;rcases c:Gv r with _|l
  ·grind
  rw[c,BR]at a;rcases b:Dz s with _|i
  ·grind
  rw[b,BR]at a;split at a;rotate_left
  ·cases a
  rename_i G;cases a;simp only[Au]at j;obtain⟨g,w,rfl,v,⟨n,y,rfl,m,rfl⟩⟩:=j;have h:=(Nq c v).mono p;obtain rfl:=Vz b m;refine(JcX l i g W h (by omega)).mono ?_;rintro e x ⟨u,rfl,q,t⟩;exact⟨u,rfl,fP (E8.mono q (fun k o=> .inr o)),t⟩
 ·cases a
def PM:Ac D->Af D
 |[c,b,a]=>(Gv c).bind fun l=>(Dz b).bind fun i=>(Gv a).bind fun r=>if l.length<=3000000/\r.length<=3000000 then some (A8 (I5 l i r))else none
 |_=>none
def Jox:Bz Aa 293 PM:=by
 refine⟨⟨_,func293,by decide,rfl⟩,fun ds d a S vs W p o=> ?_⟩;unfold PM at a;split at a
 ·rename_i y z v;rcases g:Gv y with _|l
  ·grind
  rw[g,BR]at a;rcases c:Dz z with _|i
  ·grind
  rw[c,BR]at a;rcases b:Gv v with _|r
  ·grind
  rw[b,BR]at a;split at a;rotate_left
  ·cases a
  rename_i G;cases a;simp only[Au]at o;obtain⟨h,D,rfl,C,⟨t,F,rfl,s,⟨n,t2,rfl,q,rfl⟩⟩⟩:=o;have m:=(Nq g C).mono p;obtain rfl:=Vz c s;have j:=(Nq b q).mono p;refine(tO l r i h n W m j (by omega) (by omega)).mono ?_;rintro e E ⟨u,rfl,x,B⟩;exact⟨u,rfl,fP (E8.mono x (fun k w=> .inr w)),B⟩
 ·cases a
def kC:Ac D->Af D
 |[a]=>(Gv a).bind fun l=>if l.length<=3000000 then some (iD (I4 l))else none
 |_=>none
def Jw6:Bz Aa 94 kC:=by
 refine⟨⟨_,func94,by decide,rfl⟩,fun ds d a S vs W m h=> ?_⟩;unfold kC at a;split at a
 ·rename_i i;rcases b:Gv i with _|l
  ·grind
  rw[b,BR]at a;split at a;rotate_left
  ·cases a
  rename_i G;cases a;simp only[Au]at h;obtain⟨g,n,rfl,k,rfl⟩:=h;have c:=(Nq b k).mono m;refine(QcK l g W c (by omega)).mono ?_;rintro e o ⟨rfl,j⟩;exact⟨_,rfl,by simp only[Rep],j⟩
 ·cases a
def lM:Ac D->Af D
 |[d,c]=>(Gv d).bind fun a=>(Gv c).bind fun b=>if a.length<=3000000/\b.length<=3000000 then some (bD (decide (a=b)))else none
 |_=>none
def Qdh:Bz Aa 111 lM:=by
 refine⟨⟨_,func111,by decide,rfl⟩,fun ds d c S vs W n m=> ?_⟩;unfold lM at c;split at c
 ·rename_i p q;rcases h:Gv p with _|a
  ·grind
  rw[h,BR]at c;rcases g:Gv q with _|b
  ·grind
  rw[g,BR]at c;split at c;rotate_left
  ·cases c
  rename_i G;cases c;simp only[Au]at m;obtain⟨l,t,rfl,s,⟨j,v,rfl,o,rfl⟩⟩:=m;have i:=(Nq h s).mono n;have k:=(Nq g o).mono n;refine(Jz6 a b l j W i k (by omega) (by omega)).mono ?_;rintro e u ⟨rfl,r⟩;exact⟨_,rfl,by simp only[Rep],r⟩
 ·cases c
def XP:Ac D->Af D
 |[d,c]=>(Hg d).bind fun a=>(Hg c).bind fun b=>if a.length<=3000000/\b.length<=3000000 then some (bD (decide (a=b)))else none
 |_=>none
def Jco:Bz Aa 110 XP:=by
 refine⟨⟨_,func110,by decide,rfl⟩,fun ds d c S vs W n m=> ?_⟩;unfold XP at c;split at c
 ·rename_i p q;rcases h:Hg p with _|a
  ·grind
  rw[h,BR]at c;rcases g:Hg q with _|b
  ·grind
  rw[g,BR]at c;split at c;rotate_left
  ·cases c
  rename_i G;cases c;simp only[Au]at m;obtain⟨l,t,rfl,s,⟨j,v,rfl,o,rfl⟩⟩:=m;have i:=(Yc h s).mono n;have k:=(Yc g o).mono n;refine(Qfh a b l j W i k (by omega) (by omega)).mono ?_;rintro e u ⟨rfl,r⟩;exact⟨_,rfl,by simp only[Rep],r⟩
 ·cases c
def fU:Ac D->Af D
 |[d,c]=>(Gv d).bind fun a=>(Gv c).bind fun b=>if a.length<=3000000/\b.length<=3000000 then some (bD (decide (a=b)))else none
 |_=>none
def JoT:Bz Aa 188 fU:=by
 refine⟨⟨_,func188,by decide,rfl⟩,fun ds d c S vs W n m=> ?_⟩;unfold fU at c;split at c
 ·rename_i p q;rcases h:Gv p with _|a
  ·grind
  rw[h,BR]at c;rcases g:Gv q with _|b
  ·grind
  rw[g,BR]at c;split at c;rotate_left
  ·cases c
  rename_i G;cases c;simp only[Au]at m;obtain⟨l,t,rfl,s,⟨j,v,rfl,o,rfl⟩⟩:=m;have i:=(Nq h s).mono n;have k:=(Nq g o).mono n;refine(QeA a b l j W i k (by omega) (by omega)).mono ?_;rintro e u ⟨rfl,r⟩;exact⟨_,rfl,by simp only[Rep],r⟩
 ·cases c
def KV:Ac Cj:=(164,true,Ak VQ)::(219,true,Ak Rj)::(328,true,Ak Vt)::(293,true,Ak PM)::(94,true,Ak kC)::(111,true,Ak lM)::(110,true,Ak XP)::(188,true,Ak fU)::[]
def Rp:∀p∈KV,Ci Aa p:=AC (Bf nW)<|AC (Bf JrC)<|AC (Bf Juv)<|AC (Bf Jox)<|AC (Bf Jw6)<|AC (Bf Qdh)<|AC (Bf Jco)<|AC (Bf JoT)<|EN
def TJ:Tab:=⟨KV,BM,[]⟩
def mG:Bg Aa TJ:=CU Rp
def Jeq:Ac Nat:=[]
def Qa8(n:Nat)(a:D)(h:Ae):AB Aa TJ Jeq n f166 [a] h=
(Ad (Ag .int .geq a (iD 2)) fun c=>
Az c
(Ad (Ag .int .leq a (iD 9)) fun d=>
Az d
(Ad (Ag .int .sub a (iD 1)) fun b=>
some (b,h))
(some ((iD 0),h)))
(some ((iD 0),h))):=by kernel_rfl
def Jdw:Ac Nat:=[]
def JsX(n:Nat)(o p:D)(h:Ae):AB Aa TJ Jdw n f38 [o,p] h=
(Ah (BA 25 o h) fun i r=>
Ah (BA 25 p r) fun l e=>
AV 1 none e i fun s=>
AV 1 none e l fun q=>
Ah (Ak XP [s,q] e) fun u c=>
AV 2 none c i fun m=>
AV 2 none c l fun d=>
Ah (Ak lM [m,d] c) fun k a=>
Az u
(Az k
(AV 0 none a i fun j=>
AV 0 none a l fun b=>
Ad (Ag .int .eql j b) fun g=>
some (g,a))
(some ((bD false),a)))
(some ((bD false),a))):=by kernel_rfl
def JgP:Ac Nat:=[]
def JvQ(n:Nat)(c:D)(h:Ae):AB Aa TJ JgP n f143 [c] h=
(Ah (BA 25 c h) fun b a=>
AV 2 none a b fun e=>
Ad (Bq .sl e) fun g=>
Ad (Ag .int .leq g (iD 60)) fun i=>
Az i
(AV 1 none a b fun d=>
Ad (Bq .sl d) fun j=>
Ad (Ag .int .leq j (iD 20)) fun k=>
some (k,a))
(some ((bD false),a))):=by kernel_rfl
def fJ:Ac Nat:=[0,1,4,5,12,13]
def Jy2(n:Nat)(a b:D)(h:Ae):AB Aa TJ fJ n f187 [a,b] h=
(Ad (Bq .sl a) fun j=>
Ad (Bq .sl b) fun k=>
Ad (Ag .int .neq j k) fun i=>
Az i
(some ((bD false),h))
(Ad (Bq .sl a) fun e=>
Dy (BZ Aa TJ fJ n f187 0 [a,b,(bD false),.undef,e,(iD 0)] h) (fun g d c=>
CW g 0
(some ((bD true),c))
(none)) (fun d c=>
some ((gD d 2),c)))):=by kernel_rfl
def Ra(n:Nat)(s0 b d e c a:D)(h:Ae):BK Aa TJ fJ n f187 0 [s0,b,d,e,c,a] h=
(Ad (Ag .int .lss a c) fun i=>
Az i
(Ad (BG 1 s0 a) fun j=>
Ad (Ai none h j) fun o=>
Ad (BG 1 b a) fun k=>
Ad (Ai none h k) fun l=>
Ad (Ag .int .neq o l) fun m=>
Az m
(some (.ret,[s0,b,(bD false),a,c,a],h))
(Ad (Ag .int .add a (iD 1)) fun g=>
some (.normal,[s0,b,d,a,c,g],h)))
(some ((.exit 0),[s0,b,d,e,c,a],h))):=by kernel_rfl
def JaH:Ac Nat:=[]
def Juh(n:Nat)(a b:D)(h:Ae):AB Aa TJ JaH n f345 [a,b] h=
(Ad (Ag .int .and a (.v (.int .u64 4294967295))) fun m=>
Ad (Ag .int .shr a (.v (.int .u64 32))) fun o=>
Ad (Ag .int .and b (.v (.int .u64 4294967295))) fun q=>
Ad (Ag .int .shr b (.v (.int .u64 32))) fun p=>
Ad (Ag .int .mul m q) fun s=>
Ad (Ag .int .mul o q) fun t=>
Ad (Ag .int .shr s (.v (.int .u64 32))) fun r=>
Ad (Ag .int .add t r) fun l=>
Ad (Ag .int .and l (.v (.int .u64 4294967295))) fun u=>
Ad (Ag .int .shr l (.v (.int .u64 32))) fun v=>
Ad (Ag .int .mul m p) fun c=>
Ad (Ag .int .add u c) fun j=>
Ad (Ag .int .mul o p) fun d=>
Ad (Ag .int .add d v) fun e=>
Ad (Ag .int .shr j (.v (.int .u64 32))) fun g=>
Ad (Ag .int .add e g) fun i=>
Ad (Ag .int .mul a b) fun k=>
some (.tup [i,k],h)):=by kernel_rfl
def AX:Aa.follows .mixedOrders=true:=by kernel_rfl
def JP(t:Int):Int:=if 2<=t/\t<=9 then t-1 else 0
def V5:Ac D->Af D:=F1 BV fun t=>some (iD (JP t))
def aE:Bz Aa 166 V5:=FC (kp:=Jeq) mG AX func166 fun t d h=>by
 cases h
 refine⟨0,_,?_,AY.refl _⟩;show BB (AB _ _ _ _ _ [iD t] [])=_;rw[Qa8];unfold JP;by_cases b:2<=t<;>by_cases a:t<=9<;>simp(disch:=omega) [b,a,jB]
def Oo(vs:Ac Int)(v:Int):Int:=if v<0 then-1 else vs.getD v.toNat (-1)
def JbO(a b:Ac Int)(H:Ae)(d:a.length<=3000000)(c:b.length<=3000000):Ak XP [AL a,AL b] H=some (bD (decide (a=b)),H):=by
 rw[CP _ _ _ rfl];simp[XP,d,c]
def QaF(a b:Ac Nd)(H:Ae)(d:a.length<=3000000)(c:b.length<=3000000):Ak lM [A8 a,A8 b] H=some (bD (decide (a=b)),H):=by
 rw[CP _ _ _ rfl];simp[lM,d,c]
def Qe7(a b:Ac Nd)(H:Ae)(d:a.length<=3000000)(c:b.length<=3000000):Ak fU [A8 a,A8 b] H=some (bD (decide (a=b)),H):=by
 rw[CP _ _ _ rfl];simp[fU,d,c]
abbrev Pg.fits(p:Pg):Prop:=p.vars.length<=3000000/\p.body.length<=3000000
def Jed(p q:Pg):p=q↔p.params=q.params/\p.vars=q.vars/\p.body=q.body:=by
 obtain⟨a,b,c⟩:=p;obtain⟨d,e,f⟩:=q;simp
def Ut:Ac D->Af D:=F2 Ef Ef fun p q=>if p.fits/\q.fits then some (bD (decide (p=q)))else none
def gN:Bz Aa 38 Ut:=GK (kp:=Jdw) mG AX func38 fun p q d h=>by
 split at h
 case isFalse=>cases h
 rename_i a;cases h;refine⟨0,_,?_,AY.refl _⟩;show BB (AB _ _ _ _ _ [Be p,Be q] [])=_;rw[JsX];unfold AV;simp only[Jed p q];by_cases e:p.vars=q.vars<;>by_cases c:p.body=q.body<;>by_cases b:p.params=q.params<;>simp[JbO,QaF,a.1.1,a.1.2,a.2.1,a.2.2,e,c,b]
def lT(p:Pg):Bool:=decide (p.body.length<=60)&&decide (p.vars.length<=20)
def dX:Ac D->Af D:=F1 Ef fun p=>some (bD (lT p))
def mI:Bz Aa 143 dX:=FC (kp:=JgP) mG AX func143 fun p d h=>by
 cases h
 refine⟨0,_,?_,AY.refl _⟩;show BB (AB _ _ _ _ _ [Be p] [])=_;rw[JvQ];unfold AV;unfold lT;by_cases c:(p.body.length:Int)<=60
 ·have a:p.body.length<=60:=by omega
  by_cases e:(p.vars.length:Int)<=20
  ·have b:p.vars.length<=20:=by omega
   simp[c,e,a,b]
  ·have b:¬p.vars.length<=20:=by omega
   simp[c,e,a,b]
 ·have a:¬p.body.length<=60:=by omega
  simp[c,a]
def jC:Ac D->Af D:=F2 OY OY fun a b=>if a.length<=3000000/\b.length<=3000000 then some (bD (decide (a=b)))else none
def JfX:Bz Aa 187 jC:=GK (kp:=fJ) mG AX func187 fun a b d h=>by
 split at h
 case isFalse=>cases h
 rename_i x;cases h;refine⟨a.length+1,_,?_,AY.refl _⟩;show BB (AB _ _ _ _ _ [AL a,AL b] [])=_;rw[Jy2];by_cases v:a.length=b.length
 case neg=>
  have k:¬((a.length:Int)=b.length):=by omega
  have w:a≠b:=fun e=>v (by rw[e]);simp[k,w]
 have key:∀(m i:Nat) (o:D),i+m=a.length->a.take i=b.take i->∀n,m<n->∃s l,(l= .exit 0/\a=b\/l= .ret/\a≠b/\s.getD 2 .undef=bD false)/\
   DY (BK Aa TJ fJ (a.length+1) f187 0) n [AL a,AL b,bD false,o,iD a.length,iD i] []=some (l,s,[]):=by
  intro m
  induction m with
  |zero=>
   intro i o t ht n q;obtain⟨n,rfl⟩:∃m,n=m+1:=⟨n-1,by omega⟩;have c:i=a.length:=by omega
   refine⟨_,.exit 0,.inl ⟨rfl,?_⟩,PP (s':=[AL a,AL b,bD false,o,iD a.length,iD i]) ?_⟩
   ·grind
   ·rw[Ra];simp[c]
  |succ m r=>
   intro i o t ht n q;obtain⟨n,rfl⟩:∃m,n=m+1:=⟨n-1,by omega⟩;have c:i<a.length:=by omega
   have g:i<b.length:=by omega
   have k:(i:Int)<a.length:=by omega
   by_cases j:a[i]=b[i]
   ·rw[IQ (s':=[AL a,AL b,bD false,iD i,iD a.length,iD ((i+1:Nat):Int)]) (H':=[])]
    ·exact r (i+1) _ (by omega) (JbB ht c g j) n (by omega)
    ·rw[Ra];simp(disch:=omega) [k,GY _ _ c,GY _ _ g,j,Jj]
   ·refine⟨[AL a,AL b,bD false,iD i,iD a.length,iD i],.ret,.inr ⟨rfl,fun e=>j (by simp[e]),rfl⟩,nH ?_⟩;rw[Ra];simp(disch:=omega) [k,GY _ _ c,GY _ _ g,j]
 obtain⟨s,l,hs,u⟩:=key a.length 0 .undef (by omega) rfl (a.length+1) (by omega);have p:BZ Aa TJ fJ (a.length+1) f187 0 [AL a,AL b,bD false,.undef,iD a.length,iD 0] []=some (l,s,[]):=u;have k:((a.length:Int)=b.length):=by omega
 rcases hs with⟨rfl,j⟩|⟨rfl,j,y⟩
 ·simp_all
 simp_all
def U3:Ac D->Af D
 |[.v (.int .u64 1),.v (.int .u64 k)]=>if 0<=k/\k<4294967296 then some (.tup [.v (.int .u64 0),.v (.int .u64 k)])else none
 |_=>none
def gP(k:Int)(a:0<=k)(h:k<18446744073709551616):IntKind.u64.wrap k=k:=by
 unfold IntKind.wrap;simp[IntKind.signed,IntKind.bits];omega
def Uq(k:Int)(c:0<=k)(h:k<4294967296):EJ .and .u64 k 4294967295=some (.v (.int .u64 k)):=by
 obtain⟨m,rfl⟩:=Fq c;have d:m<4294967296:=by omega
 have:(BitVec.ofInt IntKind.u64.bits (m:Int)&&&BitVec.ofInt IntKind.u64.bits 4294967295).toNat=m:=by
  rw[BitVec.toNat_and];have b:(BitVec.ofInt IntKind.u64.bits (m:Int)).toNat=m:=by
   simp[IntKind.bits];omega
  have a:(BitVec.ofInt IntKind.u64.bits 4294967295).toNat=2^32-1:=by rfl
  rw[b,a,Jky];omega
 simp only[EJ,this];rw[gP _ (by omega) (by omega)]
def fY(k:Int)(a:0<=k)(h:k<4294967296):Ag .int .shr (.v (.int .u64 k)) (.v (.int .u64 32))=some (.v (.int .u64 0)):=by
 have:k.fdiv 4294967296=0:=by grind
 simp[Ag,LX,IntKind.bits,this]
def JlQ:Bz Aa 345 U3:=by
 refine wL (kp:=JaH) mG AX func345 (by kernel_rfl) (by decide) fun ds d h=>⟨0,?_⟩;unfold U3 at h;split at h
 case h_2=>cases h
 rename_i k;split at h
 case isFalse=>cases h
 rename_i a;cases h;rw[Juh];have m:=Uq 1 (by omega) (by omega);have g:=fY 1 (by omega) (by omega);have i:=Uq k a.1 a.2;have l:=fY k a.1 a.2;have j:=Uq 0 (by omega) (by omega);have p:=fY 0 (by omega) (by omega);have n:EJ .mul .u64 1 k=some (.v (.int .u64 k)):=by simp only[EJ,Int.one_mul];rw[gP _ a.1 (by omega)]
 have e:EJ .mul .u64 0 k=some (.v (.int .u64 0)):=by simp only[EJ,Int.zero_mul];rfl
 have o:EJ .add .u64 0 0=some (.v (.int .u64 0)):=rfl;have c:EJ .mul .u64 1 0=some (.v (.int .u64 0)):=rfl;have b:EJ .mul .u64 0 0=some (.v (.int .u64 0)):=rfl;simp[m,g,i,l,j,p,n,e,o,c,b]
inductive EQ where
 |plain (ks:List Int) (is:Int)
 |array (ks:List Int) (is:Int)
 |scalar (set:Bool)
 |none
 deriving DecidableEq,Inhabited
def EQ.enc:EQ->D
 | .plain c a=> .ifc 338 (.agg [AL c,iD a])
 | .array c a=> .ifc 342 (.agg [AL c,iD a])
 | .scalar b=> .ifc 340 (.agg [bD b])
 | .none=> .v .nilIface
def EQ.dec:D->Af EQ
 | .ifc t (.agg [c,.v (.int .i64 a)])=>if t= 338 then(Hg c).map (EQ.plain · a)else if t= 342 then(Hg c).map (EQ.array · a)else Option.none
 | .ifc t (.agg [.v (.bool b)])=>if t= 340 then some (.scalar b)else Option.none
 | .v .nilIface=>some .none
 |_=>Option.none
def Db:EU EQ:=⟨EQ.enc,EQ.dec,fun r=>by cases r<;>simp[EQ.enc,EQ.dec],fun d r h=>by
 unfold EQ.dec at h;split at h
 ·split at h
  ·rename_i a;obtain⟨c,b,rfl⟩:=DV.1 h;subst a;exact AY.ifc (AY.agg (.cons (Ua b) (Gt.refl _)))
  ·split at h
   ·rename_i a;obtain⟨c,b,rfl⟩:=DV.1 h;subst a;exact AY.ifc (AY.agg (.cons (Ua b) (Gt.refl _)))
   ·cases h
 ·split at h
  ·rename_i a;cases h;subst a;exact AY.refl _
  ·cases h
 ·cases h;exact AY.refl _
 ·cases h⟩
def xJ:Ac Int:=[1,2,3,21,4,22,5,6,18,19,23,24,25,26,7,8,9,10,11,12,13,14,15,16,17]
def XA:Ac EQ:=[.plain [] 0,.plain [] 1,.scalar false,.scalar true,.array [0] 0,.array [0,0] 2,.plain [0] 0,.plain [1] 1,.plain [1,1] 1,.plain [1,1] 1,.plain [1,2,2] 2,.plain [1,2] 2,.plain [0] 2,.plain [] 2,
 .plain [0,0] 0,.plain [0,0] 0,.plain [0,0] 0,.plain [0,0] 0,.plain [0,0] 0,.plain [0,0] 1,.plain [0,0] 1,.plain [0,0] 1,.plain [0,0] 1,.plain [0,0] 1,.plain [0,0] 1]
def OU:D:= .mv xJ (XA.map EQ.enc)
def fO:D->Af Unit
 | .mv a vs=>if a=xJ/\vs.mapM EQ.dec=some XA then some ()else Option.none
 |_=>Option.none
def JhW{d:D}(h:fO d=some ()):AY d OU:=by
 unfold fO at h;split at h
 ·split at h
  ·rename_i b;obtain⟨rfl,a⟩:=b;exact AY.mv (JeY Db _ _ a)
  ·cases h
 ·cases h
def AT:Ac D->Af D:=F0 (some OU)
def Jmf:(BB (AB Aa TJ [0,1,2,3] 20 f167 [] [])).bind fO=some ():=by kernel_rfl
def QbH:Bz Aa 167 AT:=Jvj (kp:=[0,1,2,3]) mG AX func167 fun d h=>by
 cases h
 obtain⟨b,c,a⟩:=Bi.1 Jmf;exact⟨20,b,c,JhW a⟩
def eI:Ac Cj:=(166,true,Ak V5)::(38,true,Ak Ut)::(143,true,Ak dX)::(187,true,Ak jC)::(345,true,Ak U3)::(167,true,Ak AT)::KV
def JiI:∀p∈eI,Ci Aa p:=AC (Bf aE)<|AC (Bf gN)<|AC (Bf mI)<|AC (Bf JfX)<|AC (Bf JlQ)<|AC (Bf QbH)<|Rp
def Tt:Tab:=⟨eI,BM,[]⟩
def lF:Bg Aa Tt:=CU JiI
def uC:Ac Nat:=[1,2,23,24,25]
def Qfp(n:Nat)(o:D)(h:Ae):AB Aa Tt uC n f95 [o] h=
(Ah (BA 25 o h) fun c a=>
AV 0 none a c fun q=>
Ad (Ag .int .lss q (iD 0)) fun r=>
Az r
(some ((iD 14),a))
(AV 0 none a c fun p=>
AV 1 none a c fun u=>
Ad (Bq .sl u) fun s=>
Ad (Ag .int .gtr p s) fun g=>
Az g
(some ((iD 14),a))
(AV 1 none a c fun i=>
Ad (Bq .sl i) fun j=>
Ad (Ag .int .gtr j (iD 12)) fun m=>
Az m
(some ((iD 14),a))
(AV 1 none a c fun e=>
Ad (Bq .sl e) fun l=>
Dy (BZ Aa Tt uC n f95 0 [c,(iD 0),e,l,(iD 0)] a) (fun k d b=>
CW k 0
(some ((iD 0),b))
(none)) (fun d b=>
some ((gD d 1),b)))))):=by kernel_rfl
def gC(n:Nat)(s0 d c b a:D)(h:Ae):BK Aa Tt uC n f95 0 [s0,d,c,b,a] h=
(Ad (Ag .int .lss a b) fun p=>
Az p
(Ad (BG 1 c a) fun q=>
Ad (Ai none h q) fun k=>
Ad (Ag .int .neq k (iD 0)) fun r=>
Az r
(Ad (AP 0 s0) fun s=>
Ad (Ai none h s) fun t=>
Ad (Ag .int .lss a t) fun m=>
Az m
(some (.ret,[s0,(iD 14),c,b,a],h))
(Ad (Ag .int .neq k (iD 1)) fun o=>
Az o
(Ah (Ak V5 [k] h) fun u l=>
Ad (Ag .int .eql u (iD 0)) fun e=>
Az e
(some (.ret,[s0,(iD 14),c,b,a],l))
(Ad (Ag .int .add a (iD 1)) fun j=>
some (.normal,[s0,d,c,b,j],l)))
(Ad (Ag .int .add a (iD 1)) fun g=>
some (.normal,[s0,d,c,b,g],h))))
(Ad (Ag .int .add a (iD 1)) fun i=>
some (.normal,[s0,d,c,b,i],h)))
(some ((.exit 0),[s0,d,c,b,a],h))):=by kernel_rfl
def sP:Ac Nat:=[]
def Jmt(n:Nat)(o p:D)(h:Ae):AB Aa Tt sP n f133 [o,p] h=
(Ah (BA 25 o h) fun l r=>
Ah (BA 25 p r) fun m b=>
AV 0 none b l fun s=>
AV 0 none b m fun q=>
Ad (Ag .int .eql s q) fun u=>
Az u
(AV 1 none b l fun d=>
AV 1 none b m fun e=>
Ah (Ak jC [d,e] b) fun g a=>
Az g
(AV 2 none a l fun j=>
AV 2 none a m fun k=>
Ah (Ak fU [j,k] a) fun c i=>
some (c,i))
(some ((bD false),a)))
(some ((bD false),b))):=by kernel_rfl
def JaQ:Ac Nat:=[]
def Jrz(n:Nat)(c a:D)(h:Ae):AB Aa Tt JaQ n f314 [c,a] h=
(Ah (Ak U3 [c,a] h) fun b e=>
Ad (DN b 0) fun g=>
Ad (DN b 1) fun d=>
some (.tup [g,d],e)):=by kernel_rfl
def JbZ:Ac Nat:=[]
def Jzb(n:Nat)(a b c:D)(h:Ae):AB Aa Tt JbZ n f428 [a,b,c] h=
(Ah (BA 338 a h) fun j k=>
Ah (BA 25 b k) fun m e=>
Ah (BA 44 c e) fun l d=>
Ad (AP 1 j) fun g=>
Ad (Ai none d g) fun i=>
some (i,d)):=by kernel_rfl
def Jjd:Ac Nat:=[]
def Qdr(n:Nat)(R S P:D)(h:Ae):AB Aa Tt Jjd n f429 [R,S,P] h=
(Ah (BA 340 R h) fun Q V=>
Ah (BA 25 S V) fun c X=>
Ah (BA 44 P X) fun b a=>
Ad (AP 1 b) fun T=>
Ad (Ai none a T) fun U=>
Ad (AP 1 c) fun Y=>
Ad (Ai none a Y) fun W=>
Ad (Bq .sl W) fun m=>
Ad (Ag .int .geq U m) fun O=>
Az O
(some ((iD (-1)),a))
(Ad (AP 1 c) fun o=>
Ad (Ai none a o) fun q=>
Ad (AP 1 b) fun L=>
Ad (Ai none a L) fun M=>
Ad (BG 1 q M) fun w=>
Ad (Ai none a w) fun E=>
Ad (Ag .int .neq E (iD 0)) fun x=>
Az x
(Ad (AP 1 c) fun j=>
Ad (Ai none a j) fun B=>
Ad (AP 1 b) fun l=>
Ad (Ai none a l) fun K=>
Ad (BG 1 B K) fun C=>
Ad (Ai none a C) fun y=>
Ad (Ag .int .neq y (iD 1)) fun J=>
Az J
(some ((iD (-1)),a))
(Ad (AP 0 Q) fun i=>
Ad (Ai none a i) fun N=>
Az N
(some ((iD 2),a))
(Ad (AP 1 c) fun v=>
Ad (Ai none a v) fun g=>
Ad (AP 1 b) fun I=>
Ad (Ai none a I) fun p=>
Ad (BG 1 g p) fun H=>
Ad (Ai none a H) fun G=>
some (G,a))))
(Ad (AP 0 Q) fun e=>
Ad (Ai none a e) fun s=>
Az s
(some ((iD 2),a))
(Ad (AP 1 c) fun d=>
Ad (Ai none a d) fun u=>
Ad (AP 1 b) fun z=>
Ad (Ai none a z) fun F=>
Ad (BG 1 u F) fun k=>
Ad (Ai none a k) fun r=>
some (r,a))))):=by kernel_rfl
def JeW:Ac Nat:=[]
def Qax(n:Nat)(v w u:D)(h:Ae):AB Aa Tt JeW n f430 [v,w,u] h=
(Ah (BA 342 v h) fun F B=>
Ah (BA 25 w B) fun x E=>
Ah (BA 44 u E) fun s b=>
Ad (AP 1 s) fun y=>
Ad (Ai none b y) fun z=>
Ad (AP 1 x) fun G=>
Ad (Ai none b G) fun C=>
Ad (Bq .sl C) fun d=>
Ad (Ag .int .geq z d) fun r=>
Az r
(some ((iD (-1)),b))
(Ad (AP 1 x) fun e=>
Ad (Ai none b e) fun g=>
Ad (AP 1 s) fun p=>
Ad (Ai none b p) fun q=>
Ad (BG 1 g q) fun i=>
Ad (Ai none b i) fun m=>
Ah (Ak V5 [m] b) fun j a=>
Ad (Ag .int .eql j (iD 0)) fun k=>
Az k
(some ((iD (-1)),a))
(Ad (AP 0 F) fun c=>
Ad (AP 1 c) fun o=>
Ad (Ai none a o) fun l=>
some (l,a)))):=by kernel_rfl
end Go.Proofs.YtapdelkomkpgmaaGreatDoor
