/-
  Parse reads back what Format returns, and a list is determined by its entries, as its tied card says. Conditions: what the card itself names (the package-level variables that are listed, tied to the program's text).
-/
import Derived.Test.YtelhbgonncceeaaGreatDoorKCG4
import Derived.BigCall
import Derived.BigGuard
import Derived.BigQuiet
import Derived.Deep.QuietTactic
import Derived.Ground.SlsfProg
import Derived.LoopTactic
import Derived.Shelf.Abstract
import Derived.Shelf.SlSortCmp.NoneTotal
import Derived.Shelf.SlSortCmp.WholeK
import Derived.Shelf.Strings.BuilderK
import Derived.Shelf.Strings.LastIndex
import Derived.Shelf.Strings.OnBuilder
import Derived.Test.YtelhbgonncceeaaGreatDoorCards
import Derived.Test.YtelhbgonncceeaaGreatDoorProg
import Derived.Test.YtelhbgonncceeaaGreatDoorTie
import Derived.WalkKit
import Derived.WalkMore
namespace Go.Proofs.YtelhbgonncceeaaGreatDoor.E
set_option linter.all false
section
open Go Go.Proofs Go.Sort
set_option maxRecDepth 100000
theorem Wx {C:Cfg} {σ:Type} {I:σ->(Nat->Prop)->(Nat->Prop)->World->Prop} (hI:HI I) {Γ:Ctx} {Φ:Nat->Prop} {w w':World} {z v1:Bool} {E e1 s1:Nat} {l l' m:LL} {s:σ} (g cap:Nat) (Vs:List Value) (cur:Array Value)
  (hnf:Fy C E=false) (hH:HR Γ [.arr z E 1 l,.arr v1 e1 s1 m] w) (hi:I s Γ.St Φ w) (hd:∀ b g,Γ.nm b=some g->¬ Φ g)
  (hown:Γ.nm 0=some g\/g=w.heap.size) (hgl:g<w'.heap.size) (hoth:∀ k,k<w.heap.size->Γ.nm 0≠some k->w'.heap[k]? = w.heap[k]?) (hsz:w.heap.size<=w'.heap.size) (h1:w'.os=w.os) (h2:w'.tape=w.tape) (h3:w'.output=w.output)
  (hrow:w'.heap[g]? = some (.cells cur E (0,0))) (hE:Els Γ.St w' 1 l' Vs) (hl':l'≠[]) (hc:∀ q,q<Vs.length->cur[q]? = Vs[q]?) (hl:Vs.length<=cur.size) (hcap:l'.length<=cap) (hm:cap<=maxLen) (hcs:cur.size=cap) :
  V7 C I Γ [.arr z E 1 l,.arr v1 e1 s1 m] w Φ (.fl 0) [.arr z E 1 l',.arr v1 e1 s1 m] s (.slice (some ⟨g,0,none⟩) l'.length cap) w':=by
 have hblt:0<[Blk.arr z E 1 l,.arr v1 e1 s1 m].length:=by simp
 have hng:(Γ.re 0 (some g)).nm 0=some g:=by simp [Ctx.re]
 have hnf':¬ Ec C (A0 [Blk.arr z E 1 l,.arr v1 e1 s1 m] 0):=by simp [A0,Blk.shp,Ec,hnf]
 have hk:([Blk.arr z E 1 l,.arr v1 e1 s1 m].map (Blk.kill 0)).set 0 (.arr z E 1 l')=[.arr z E 1 l',.arr v1 e1 s1 m]:=rfl
 have hgS:¬ Γ.St g:=by
  rcases hown with h | h
  ·exact (hH.lt 0 g h).2.2
  ·intro hs
   have:=hH.stlt g hs
   omega
 obtain ⟨q1,q2,q3⟩:=FO (C:=C) (y:=.arr z E 1 l') (ng:=some g) (w':=w') hH hblt hnf' (λk hk=>by
   simp only [Option.some.injEq] at hk;subst hk
   refine ⟨hgl,hgS,λc hc hc2=>?_⟩
   rcases hown with h | h
   ·exact hc (hH.inj c 0 _ hc2 h)
   ·have:=(hH.lt c _ hc2).2.1
    omega)
  (λk hk=>by
   simp only [Option.some.injEq] at hk;subst hk
   rcases hown with h | h
   ·exact .inl h
   ·exact .inr (by omega)) hoth hsz h1 h2 h3
  (BR.els hng hrow hE (by rintro ⟨_,h⟩;exact hl' h) hc hl) rfl
 rw [hk] at q1 q2
 refine ⟨_,Φ,q1.lift Φ,q2,?_,λc hc=>?_,?_,λb g' hb=>?_⟩
 ·refine .fl 0 g z E 1 l'.length cap rfl (λ_ h=>hl' (List.length_eq_zero_iff.1 h)) hng hcap hm ?_
  simp only [World.shape?,hrow,hcs,Nat.mul_one]
 ·simp only [PV.nms,List.mem_singleton] at hc
  subst hc
  simp
 ·refine hI.mono s Γ.St Φ w Γ.St w' hi (λ_ h=>h) (λk hk hp=>(hI.foot _ _ _ _ hi k hp).2 hk) (λk hk=>Nat.lt_of_lt_of_le (hH.stlt k hk) hsz) (λk hk=>?_) hsz h1 h2 h3
  rcases hk with hk | hk
  ·exact hoth k (hH.stlt k hk) (λh=>(hH.lt 0 k h).2.2 hk)
  ·exact hoth k (hI.foot _ _ _ _ hi k hk).1 (λh=>hd 0 k h hk)
 ·simp only [Ctx.re] at hb
  split at hb
  ·simp only [Option.some.injEq] at hb
   subst hb
   rcases hown with h | h
   ·exact hd 0 _ h
   ·intro hp
    have:=(hI.foot _ _ _ _ hi _ hp).1
    omega
  ·exact hd b g' hb
theorem W9 {w:World} {g o e:Nat} {vs:List Value} {cur:Array Value} (hg:w.heap[g]? = some (.cells cur e (0,0))) (hle:o+vs.length<=cur.size) (h1:∀ v∈vs,v.oneCell'=true) :
  (w.setCells g o vs).heap[g]? = some (.cells (E7 cur.toList o vs).toArray e (0,0))/\(∀ k,k≠g->(w.setCells g o vs).heap[k]? = w.heap[k]?)/\(w.setCells g o vs).heap.size=w.heap.size/\(w.setCells g o vs).os=w.os/\(w.setCells g o vs).tape=w.tape/\(w.setCells g o vs).output=w.output:=by
 obtain ⟨w',r1,r2,r3,r4,r5,r6,r7,_⟩:=H9 (P:=Tryz.prog) (o:=o) hg hle h1
 have hcell:∀ j,j<vs.length->∃ v,w.cell? ⟨g,o+0+j,none⟩=some v:=λj hj=>by
  refine ⟨cur[o+j]'(by omega),?_⟩
  simp [World.cell?,hg,Array.getElem?_eq_getElem (show o+j<cur.size by omega)]
 have r:=run_storeCells_cells (P:=Tryz.prog) g o vs 0 w (λj hj=>by obtain ⟨v,h⟩:=hcell j hj;rw [h];rfl) (λj hj=>by simp [World.frozen?,hg]) h1
 rw [r] at r1
 simp only [Nat.add_zero,Result.ok.injEq,true_and] at r1
 rw [r1]
 exact ⟨r2,r3,r4,r5,r6,r7⟩
theorem Vm {St:Nat->Prop} {w:World} {l:LL} {cs:List Value} {i:Nat} {n:Int} (h:Els St w 1 l cs) (hi:i<=l.length):Els St w 1 (Gc l i n) (cs.take i++Value.int .i64 n::cs.drop i):=by
 have hlen:=h.1
 rw [Nat.mul_one] at hlen
 have h1:Els St w 1 (l.take i) (cs.take i):=by
  refine ⟨by rw [List.length_take,List.length_take,hlen,Nat.mul_one],λj hj=>?_⟩
  rw [List.length_take] at hj
  rw [List.getElem_take]
  obtain ⟨a,b⟩:=h.2 j (by omega)
  refine ⟨a,λk hk=>?_⟩
  obtain ⟨U,e,v⟩:=b k hk
  exact ⟨U,by rw [List.getElem?_take_of_lt (by omega)];exact e,v⟩
 have h2:Els St w 1 [[SV.int .i64 n]] [Value.int .i64 n]:=by
  refine ⟨rfl,λj hj=>?_⟩
  have:j=0:=by simpa using hj
  subst this
  refine ⟨rfl,λk hk=>?_⟩
  have:k=0:=by simpa using hk
  subst this
  exact ⟨_,rfl,.int _ _⟩
 have h3:Els St w 1 (l.drop i) (cs.drop i):=by
  refine ⟨by rw [List.length_drop,List.length_drop,hlen,Nat.mul_one],λj hj=>?_⟩
  rw [List.length_drop] at hj
  rw [List.getElem_drop]
  obtain ⟨a,b⟩:=h.2 (i+j) (by omega)
  refine ⟨a,λk hk=>?_⟩
  obtain ⟨U,e,v⟩:=b k hk
  exact ⟨U,by rw [List.getElem?_drop];rw [show i+(j*1+k)=(i+j)*1+k by omega];exact e,v⟩
 have:=(h1.append h2).append h3
 unfold Gc
 simpa using this
theorem Vn (l:LL) (i:Nat) (n:Int) (h:i<=l.length):(Gc l i n).length=l.length+1:=by
 unfold Gc
 rw [List.length_append,List.length_cons,List.length_take,List.length_drop]
 omega
theorem EN (l:LL) (i:Nat) (n:Int):Gc l i n≠[]:=by
 unfold Gc
 simp
theorem Bg5:Lq Tryz.prog GX 199 CZ:=by
 intro C hP hG σ I yh yv hI hy args H s ret Hc hpf Γ Φ w Vs hyv hH hg hi hd hc hn
 unfold CZ at hpf
 split at hpf
 ·rename_i i z l nn
  obtain ⟨h0,hpf⟩:=C6 hpf
  obtain ⟨h1,hpf⟩:=C6 hpf
  obtain ⟨rfl,rfl⟩:=G1 hpf
  obtain ⟨i0,i1⟩:=O5.1 h0
  obtain ⟨i,rfl⟩:=Int.eq_ofNat_of_zero_le i0
  have hl:=Nat.le_of_ble_eq_true h1
  have hil:i<=l.length:=by
   have:(i:Int)<((l.length+1:Nat):Int):=i1
   omega
  obtain ⟨S,X0,V,rfl,hs,hx,hv⟩:=hc.arr3
  obtain rfl:=hx.inv_int
  have hnf:Fy C 3=false:=by
   unfold Fy Cfg.sh
   rw [hP]
   kernel_rfl
  obtain ⟨g1,cur1,n1,n2,n3,n4,n5⟩:=hH.arr' (b:=1) rfl (by simp)
  have hvs:∃ cap,V = .slice (some ⟨g1,0,none⟩) 1 cap:=by
   cases hv with
   | flv _ e sz h=>simp [A0,Blk.shp] at h
   | fl _ g v e sz n cap h hv' hg' hcap hm hs'=>
    rw [n1] at hg'
    simp only [Option.some.injEq] at hg'
    subst hg'
    simp only [A0,List.getElem?_cons_succ,List.getElem?_cons_zero,Option.map_some,Blk.shp,Option.some.injEq,Shp.arr.injEq] at h
    obtain ⟨_,_,_,h4⟩:=h
    subst h4
    exact ⟨cap,rfl⟩
  obtain ⟨cap1,rfl⟩:=hvs
  obtain ⟨V1,p1,p2⟩:=n5 0 (by simp) 0 (by simp)
  have p3:V1 = .int .i64 nn:=by cases p2;rfl
  subst p3
  have hvcell:∀ j v,[Value.int .i64 nn][j]? = some v->w.cell? ⟨g1,0+j,none⟩=some v:=by
   intro j v hj
   have:j=0:=by
    have:=(List.getElem?_eq_some_iff.1 hj).1
    simpa using this
   subst this
   simp only [List.getElem?_cons_zero,Option.some.injEq] at hj
   subst hj
   simpa [World.cell?,n2] using p1
  have hv1:∀ v∈[Value.int .i64 nn],v.oneCell'=true:=by simp [Value.oneCell']
  rw [Int.toNat_natCast]
  refine Ab (fn:=Tryz.f199) (by kernel_rfl) (by kernel_rfl) (by kernel_rfl) ?_
  have grownEnd:∀ (base:Option Addr) (c:Nat) (cs:List Value),l.length<=c->c<l.length+1->cs.length=l.length->(base=none->l.length=0)->(∀ a,base=some a->∀ j v,cs[j]? = some v->w.cell? (a.add j)=some v)->Els Γ.St w 1 l cs->
    Calls Tryz.prog 199 #[.slice base l.length c,.int .i64 (l.length:Int),.slice (some ⟨g1,0,none⟩) 1 cap1] w λe w'=>∃ V,e = .returned V/\V7 C I Γ [.arr z 3 1 l,.arr false 3 1 [[SV.int .i64 nn]]] w Φ (.fl 0) [.arr z 3 1 (Gc l l.length nn),.arr false 3 1 [[SV.int .i64 nn]]] s V w':=by
   intro base c cs a1 a2 a3 a4 a5 a6
   refine (Any2.slices_Insert_int_end_grow Tryz.lays2_21 base l.length c g1 0 1 cap1 cs [.int .i64 nn] w (by omega) a1 a2 (by omega) a3 rfl a4 a5 hvcell hv1).mono ?_
   rintro e w' ⟨rfl,rfl⟩
   refine ⟨_,rfl,?_⟩
   obtain ⟨hge,hle⟩:=Di (w:=w) (need:=l.length+1) (cap:=c) (e:=3) (by omega)
   have hE:=Vm (n:=nn) a6 (Nat.le_refl l.length)
   have hcsl:cs.take l.length++Value.int .i64 nn::cs.drop l.length=cs++[Value.int .i64 nn]:=by
    rw [List.take_of_length_le (by omega),List.drop_of_length_le (by omega)]
   rw [hcsl] at hE
   have hlen:=Vn l l.length nn (Nat.le_refl _)
   obtain ⟨r1,r2⟩:=Pt (olds:=cs) (Vs:=[Value.int .i64 nn]) (z:=(Value.int .i64 0).cells) (k:=grownCap w (l.length+1) c 3) (n:=l.length) (m:=1) (size:=1) rfl (by omega) rfl hge
   have hrowE:(cs.toArray++[Value.int .i64 nn].toArray)=(cs++[Value.int .i64 nn]).toArray:=by simp
   rw [hrowE] at r1 r2
   have key:∀ (row:Array Value) (kc:Nat),row.size=kc->(∀ q,q<(cs++[Value.int .i64 nn]).length->row[q]? = (cs++[Value.int .i64 nn])[q]?)->l.length+1<=kc->kc<=maxLen->
     V7 C I Γ [.arr z 3 1 l,.arr false 3 1 [[SV.int .i64 nn]]] w Φ (.fl 0) [.arr z 3 1 (Gc l l.length nn),.arr false 3 1 [[SV.int .i64 nn]]] s (.slice (some ⟨w.heap.size,0,none⟩) (l.length+1) kc) (w.drew.alloc (.cells row 3)):=by
    intro row kc b1 b2 b3 b4
    have hwh:(w.drew.alloc (.cells row 3)).heap=w.heap.push (.cells row 3):=rfl
    have:=Wx (C:=C) (w':=w.drew.alloc (.cells row 3)) (l':=Gc l l.length nn) hI w.heap.size kc (cs++[Value.int .i64 nn]) row hnf hH hi hd (.inr rfl) (by rw [hwh];simp) (λk hk _=>E9 hwh hk) (by rw [hwh];simp) rfl rfl rfl (E8 hwh) (hE.mono (λg hg=>E9 hwh (hH.stlt g hg)) (λ_ h=>h)) (EN _ _ _) b2 (by rw [b1,List.length_append,List.length_singleton];omega) (by rw [hlen];exact b3) b4 b1
    rw [hlen] at this
    exact this
   exact key _ _ (r1.trans (Nat.mul_one _)) r2 hge hle
  have two:∀ (row:Array Value) (cs:List Value),cs.length=l.length->i<l.length->l.length+1<=row.size->(∀ q,q<i->row[q]? = cs[q]?)->
    ∀ q,q<(cs.take i++Value.int .i64 nn::cs.drop i).length->(E7 (E7 row.toList i [Value.int .i64 nn]) (i+1) (cs.drop i)).toArray[q]? = (cs.take i++Value.int .i64 nn::cs.drop i)[q]?:=by
   intro row cs a1 a2 a3 a4 q hq
   have hq':q<l.length+1:=by
    rw [List.length_append,List.length_cons,List.length_take,List.length_drop] at hq
    omega
   have ht:(cs.take i).length=i:=by rw [List.length_take];omega
   have hrl:row.toList.length=row.size:=Array.length_toList
   simp only [List.getElem?_toArray]
   rw [J5 _ _ _ (by rw [C8,List.length_drop,hrl];omega),J5 _ _ _ (by rw [List.length_singleton,hrl];omega)]
   by_cases h1:q<i
   ·rw [R7,R7,List.getElem?_append_left (by omega),List.getElem?_take_of_lt h1]
    simpa using a4 q h1
   ·by_cases h2:q=i
    ·subst h2
     rw [R7,if_pos (by rw [List.length_singleton];omega),List.getElem?_append_right (by omega),ht,Nat.sub_self]
     rfl
    ·rw [if_pos (by rw [List.length_drop];omega),List.getElem?_append_right (by omega),ht,show q-i=(q-(i+1))+1 by omega,List.getElem?_cons_succ]
  have grownMid:∀ (g c:Nat) (cs:List Value),i<l.length->l.length<=c->c<l.length+1->cs.length=l.length->(∀ j v,cs[j]? = some v->w.cell? ⟨g,0+j,none⟩=some v)->(∀ v∈cs,v.oneCell'=true)->Els Γ.St w 1 l cs->
    Calls Tryz.prog 199 #[.slice (some ⟨g,0,none⟩) l.length c,.int .i64 (i:Int),.slice (some ⟨g1,0,none⟩) 1 cap1] w λe w'=>∃ V,e = .returned V/\V7 C I Γ [.arr z 3 1 l,.arr false 3 1 [[SV.int .i64 nn]]] w Φ (.fl 0) [.arr z 3 1 (Gc l i nn),.arr false 3 1 [[SV.int .i64 nn]]] s V w':=by
   intro g c cs hi' a1 a2 a3 a4 a5 a6
   refine (Any2.slices_Insert_int_grow Tryz.lays2_21 g 0 l.length c i g1 0 1 cap1 cs [.int .i64 nn] w hi' (by omega) a1 a2 (by omega) a3 rfl a4 hvcell a5 hv1).mono ?_
   rintro e w' ⟨rfl,rfl⟩
   refine ⟨_,rfl,?_⟩
   obtain ⟨hge,hle⟩:=Di (w:=w) (need:=l.length+1) (cap:=c) (e:=3) (by omega)
   have hE:=Vm (n:=nn) a6 hil
   have hlen:=Vn l i nn hil
   have key:∀ (row:Array Value) (kc:Nat),row.size=kc->(∀ q,q<i->row[q]? = cs[q]?)->l.length+1<=kc->kc<=maxLen->
     V7 C I Γ [.arr z 3 1 l,.arr false 3 1 [[SV.int .i64 nn]]] w Φ (.fl 0) [.arr z 3 1 (Gc l i nn),.arr false 3 1 [[SV.int .i64 nn]]] s (.slice (some ⟨w.heap.size,0,none⟩) (l.length+1) kc) (((w.alloc (.cells row 3)).drew.setCells w.heap.size i [Value.int .i64 nn]).drew.setCells w.heap.size (i+1) (cs.drop i)):=by
    intro row kc b1 b2 b3 b4
    have hwh:(w.alloc (.cells row 3)).drew.heap=w.heap.push (.cells row 3):=rfl
    obtain ⟨c1,c2,c3,c4,c5,c6⟩:=W9 (w:=(w.alloc (.cells row 3)).drew) (o:=i) (vs:=[Value.int .i64 nn]) (E8 hwh) (by rw [List.length_singleton];omega) hv1
    generalize hw1:(w.alloc (.cells row 3)).drew.setCells w.heap.size i [Value.int .i64 nn]=w1 at *
    have hs1:(E7 row.toList i [Value.int .i64 nn]).toArray.size=kc:=by rw [List.size_toArray,C8];simpa using b1
    obtain ⟨d1,d2,d3,d4,d5,d6⟩:=W9 (w:=w1.drew) (o:=i+1) (vs:=cs.drop i) c1 (by rw [hs1,List.length_drop];omega) (λv hv=>a5 v (List.mem_of_mem_drop hv))
    have hoth:∀ k,k<w.heap.size->(w1.drew.setCells w.heap.size (i+1) (cs.drop i)).heap[k]? = w.heap[k]?:=λk hk=>by
     rw [d2 k (by omega)]
     exact (c2 k (by omega)).trans (E9 hwh hk)
    have hsz:(w1.drew.setCells w.heap.size (i+1) (cs.drop i)).heap.size=w.heap.size+1:=by
     rw [d3]
     show w1.heap.size=_
     rw [c3,hwh]
     simp
    have:=Wx (C:=C) (w':=w1.drew.setCells w.heap.size (i+1) (cs.drop i)) (l':=Gc l i nn) hI w.heap.size kc (cs.take i++Value.int .i64 nn::cs.drop i) _ hnf hH hi hd (.inr rfl) (by rw [hsz];omega) (λk hk _=>hoth k hk) (by rw [hsz];omega) (d4.trans c4) (d5.trans c5) (d6.trans c6) d1 (hE.mono (λg hg=>hoth g (hH.stlt g hg)) (λ_ h=>h)) (EN _ _ _) (two row cs a3 hi' (by omega) b2) (by rw [List.size_toArray,C8,List.length_append,List.length_cons,List.length_take,List.length_drop];simp only [List.size_toArray,C8] at hs1 ⊢;omega) (by rw [hlen];exact b3) b4 (by rw [List.size_toArray,C8];simpa using hs1)
    rw [hlen] at this
    exact this
   have hz1:(Value.int .i64 0).cells.size=1:=rfl
   have ht:(cs.take i).length=i:=by rw [List.length_take];omega
   refine key _ _ ?_ (λq hq=>?_) hge hle
   ·simp only [Array.size_append,List.size_toArray,size_zeroCells,hz1,Nat.mul_one,ht]
    have:l.length+1<=grownCap w (l.length+1) c 3:=hge
    show i+(l.length+1-i)+(grownCap w (l.length+1) c 3-(l.length+1))=grownCap w (l.length+1) c 3
    omega
   ·rw [Array.getElem?_append_left (by simp only [Array.size_append,List.size_toArray,ht];omega),Array.getElem?_append_left (by simp only [List.size_toArray,ht];omega),List.getElem?_toArray,List.getElem?_take_of_lt hq]
  have two':∀ (row:Array Value) (cs:List Value),cs.length=l.length->i<l.length->l.length+1<=row.size->(∀ q,q<i->row[q]? = cs[q]?)->
    ∀ q,q<(cs.take i++Value.int .i64 nn::cs.drop i).length->(E7 (E7 row.toList (i+1) (cs.drop i)) i [Value.int .i64 nn]).toArray[q]? = (cs.take i++Value.int .i64 nn::cs.drop i)[q]?:=by
   intro row cs a1 a2 a3 a4 q hq
   have hq':q<l.length+1:=by
    rw [List.length_append,List.length_cons,List.length_take,List.length_drop] at hq
    omega
   have ht:(cs.take i).length=i:=by rw [List.length_take];omega
   have hrl:row.toList.length=row.size:=Array.length_toList
   simp only [List.getElem?_toArray]
   rw [J5 _ _ _ (by rw [C8,List.length_singleton,hrl];omega),J5 _ _ _ (by rw [List.length_drop,hrl];omega)]
   by_cases h1:q<i
   ·rw [R7,R7,List.getElem?_append_left (by omega),List.getElem?_take_of_lt h1]
    simpa using a4 q h1
   ·by_cases h2:q=i
    ·subst h2
     rw [if_pos (by rw [List.length_singleton];omega),List.getElem?_append_right (by omega),ht,Nat.sub_self]
     rfl
    ·rw [if_neg (by rw [List.length_singleton];omega),if_pos (by rw [List.length_drop];omega),List.getElem?_append_right (by omega),ht,show q-i=(q-(i+1))+1 by omega,List.getElem?_cons_succ]
  cases hs with
  | flv _ e2 sz2 h'=>
   simp only [A0,List.getElem?_cons_zero,Option.map_some,Blk.shp,Option.some.injEq,Shp.arr.injEq] at h'
   obtain ⟨q1,q2,q3,h4⟩:=h'
   obtain rfl:=List.length_eq_zero_iff.1 h4
   obtain rfl:i=0:=by simpa using hil
   exact grownEnd none 0 [] (by simp) (by simp) rfl (λ_=>rfl) (λa h=>by cases h) ⟨rfl,λj hj=>by simp at hj⟩
  | fl _ g z' e2 sz2 n' cap h' hv' hg' hcap hm hs'=>
   simp only [A0,List.getElem?_cons_zero,Option.map_some,Blk.shp,Option.some.injEq,Shp.arr.injEq] at h'
   obtain ⟨rfl,rfl,rfl,rfl⟩:=h'
   have hne:¬ (z=true/\l=[]):=by rintro ⟨q1,q2⟩;exact hv' q1 (by rw [q2];rfl)
   obtain ⟨g',cur,hg2,hh,hsize,hlens,hels⟩:=hH.arr' (b:=0) rfl hne
   obtain rfl:g=g':=by
    rw [hg'] at hg2
    exact Option.some.inj hg2
   have hcs:cur.size=cap:=by
    have:=hs'
    simp only [World.shape?,hh,Option.some.injEq,Prod.mk.injEq,true_and,Nat.mul_one] at this
    exact this
   rw [Nat.mul_one] at hsize
   have hO:Els Γ.St w 1 l (cur.toList.take l.length):=by
    refine ⟨by rw [List.length_take,Array.length_toList (xs:=cur)];omega,λj hj=>⟨hlens j hj,λk hk=>?_⟩⟩
    obtain ⟨U,e1,u⟩:=hels j hj k hk
    refine ⟨U,?_,u⟩
    have hk':k<1:=by rw [<-hlens j hj];exact hk
    rw [List.getElem?_take,Gz]
    simpa using e1
   have hol:(cur.toList.take l.length).length=l.length:=by rw [List.length_take,Array.length_toList (xs:=cur)];omega
   have hcell:∀ j v,(cur.toList.take l.length)[j]? = some v->w.cell? ⟨g,0+j,none⟩=some v:=by
    intro j v hj
    have hj':j<l.length:=by
     have:=(List.getElem?_eq_some_iff.1 hj).1
     omega
    rw [List.getElem?_take,if_pos hj'] at hj
    simpa [World.cell?,hh] using hj
   have h1c:∀ v∈cur.toList.take l.length,v.oneCell'=true:=by
    intro v hv
    obtain ⟨j,hj,rfl⟩:=List.getElem_of_mem hv
    have hj':j<l.length:=by omega
    obtain ⟨_,u⟩:=hO.2 j hj'
    obtain ⟨U,e1,u2⟩:=u 0 (by rw [hlens j hj'];exact Nat.one_pos)
    rw [Nat.mul_one,Nat.add_zero,List.getElem?_eq_getElem hj] at e1
    cases e1
    exact u2.oneCell
   have hlen:=Vn l i nn hil
   have hE:=Vm (n:=nn) hO hil
   have hsome:∀ j,j<cap->(w.cell? ⟨g,j,none⟩).isSome=true:=by
    intro j hj
    simp only [World.cell?,hh]
    rw [Array.getElem?_eq_getElem (by omega)]
    rfl
   have hfrz:∀ j,w.frozen? ⟨g,j,none⟩=false:=λj=>by simp [World.frozen?,hh]
   have hng1:g1≠g:=λe=>by
    have:=hH.inj 1 0 g (by rw [<-e];exact n1) hg'
    omega
   have hmx:cap<=9223372036854775807:=by
    simp only [maxLen] at hm
    omega
   by_cases hroom:l.length+1<=cap
   ·have key:∀ (w':World) (row:List Value),w'.heap[g]? = some (.cells row.toArray 3 (0,0))->(∀ k,k≠g->w'.heap[k]? = w.heap[k]?)->w'.heap.size=w.heap.size->w'.os=w.os->w'.tape=w.tape->w'.output=w.output->row.length=cap->
      (∀ q,q<((cur.toList.take l.length).take i++Value.int .i64 nn::(cur.toList.take l.length).drop i).length->row.toArray[q]? = ((cur.toList.take l.length).take i++Value.int .i64 nn::(cur.toList.take l.length).drop i)[q]?)->
      V7 C I Γ [.arr z 3 1 l,.arr false 3 1 [[SV.int .i64 nn]]] w Φ (.fl 0) [.arr z 3 1 (Gc l i nn),.arr false 3 1 [[SV.int .i64 nn]]] s (.slice (some ⟨g,0,none⟩) (l.length+1) cap) w':=by
     intro w' row k1 k2 k3 k4 k5 k6 k7 k8
     have hgS:¬ Γ.St g:=(hH.lt 0 g hg').2.2
     have:=Wx (C:=C) (w':=w') (l':=Gc l i nn) hI g cap ((cur.toList.take l.length).take i++Value.int .i64 nn::(cur.toList.take l.length).drop i) row.toArray hnf hH hi hd (.inl hg') (by rw [k3];exact (hH.lt 0 g hg').2.1) (λk hk hk2=>k2 k (λe=>hk2 (e ▸ hg'))) (by omega) k4 k5 k6 k1
      (hE.mono (λk hk=>k2 k (λe=>hgS (e ▸ hk))) (λ_ h=>h)) (EN _ _ _) k8
      (by rw [List.size_toArray,k7,List.length_append,List.length_cons,List.length_take,List.length_drop,hol];omega) (by rw [hlen];exact hroom) hm (by rw [List.size_toArray,k7])
     rw [hlen] at this
     exact this
    by_cases hie:i=l.length
    ·subst hie
     refine (Any2.slices_Insert_int_end_room Tryz.lays2_21 g 0 l.length cap g1 0 1 cap1 [.int .i64 nn] w (by omega) hroom hmx rfl (λj hj=>hsome _ (by omega)) (λj hj=>hfrz _) hvcell hv1).mono ?_
     rintro e w' ⟨rfl,rfl⟩
     refine ⟨_,rfl,?_⟩
     obtain ⟨c1,c2,c3,c4,c5,c6⟩:=W9 (w:=w) (o:=0+l.length) (vs:=[Value.int .i64 nn]) hh (by rw [List.length_singleton];omega) hv1
     refine key _ _ c1 c2 c3 c4 c5 c6 (by rw [C8];simpa using hcs) (λq hq=>?_)
     rw [List.take_of_length_le (by omega),List.drop_of_length_le (by omega)] at hq ⊢
     rw [List.length_append,hol,List.length_singleton] at hq
     simp only [List.getElem?_toArray]
     rw [J5 _ _ _ (by rw [List.length_singleton,Array.length_toList (xs:=cur)];omega)]
     by_cases hq2:q<l.length
     ·rw [R7,List.getElem?_append_left (by omega),List.getElem?_take,if_pos hq2]
     ·obtain rfl:q=l.length:=by omega
      rw [if_pos (by rw [List.length_singleton];omega),List.getElem?_append_right (by omega),hol]
      simp
    ·have hi':i<l.length:=by omega
     refine (Any2.slices_Insert_int_shift Tryz.lays2_21 g 0 l.length cap i g1 0 1 cap1 (cur.toList.take l.length) [.int .i64 nn] w hi' (by omega) hroom hmx hng1 hol rfl hcell (λj hj=>hsome _ (by omega)) (λj hj=>hfrz _) hvcell h1c hv1 3 3 cur1.size cur.size (by simp [World.shape?,n2]) (by simp [World.shape?,hh]) (by omega) (by simp [World.frozen?,n2]) (by simp [World.frozen?,n2])).mono ?_
     rintro e w' ⟨rfl,rfl⟩
     refine ⟨_,rfl,?_⟩
     obtain ⟨c1,c2,c3,c4,c5,c6⟩:=W9 (w:=w.drew) (o:=0+(i+1)) (vs:=(cur.toList.take l.length).drop i) hh (by rw [List.length_drop,hol];omega) (λv hv=>h1c v (List.mem_of_mem_drop hv))
     generalize hw1:w.drew.setCells g (0+(i+1)) ((cur.toList.take l.length).drop i)=w1 at *
     have hs1:(E7 cur.toList (0+(i+1)) ((cur.toList.take l.length).drop i)).toArray.size=cap:=by rw [List.size_toArray,C8];simpa using hcs
     obtain ⟨d1,d2,d3,d4,d5,d6⟩:=W9 (w:=w1) (o:=0+i) (vs:=[Value.int .i64 nn]) c1 (by rw [hs1,List.length_singleton];omega) hv1
     refine key _ _ d1 (λk hk=>(d2 k hk).trans (c2 k hk)) (d3.trans c3) (d4.trans c4) (d5.trans c5) (d6.trans c6) (by rw [C8];simpa using hs1) ?_
     rw [Nat.zero_add,Nat.zero_add]
     exact two' cur _ hol hi' (by omega) (λq hq=>by rw [List.getElem?_take,Gz];simp)
   ·by_cases hie:i=l.length
    ·subst hie
     exact grownEnd (some ⟨g,0,none⟩) cap (cur.toList.take l.length) hcap (by omega) hol (λh=>by cases h) (λa h j v hj=>by
      obtain rfl:=Option.some.inj h
      rw [I7]
      exact hcell j v hj) hO
    ·exact grownMid g cap _ (by omega) hcap (by omega) hol hcell h1c hO
 ·cases hpf
end
section
open Go Go.Proofs
set_option maxRecDepth 100000
section
theorem A51:Lq Tryz.prog GX 189 Sl:=by
 refine X4 (C₀:=DO LF) (En (lx:=[(186,Hm),(184,Hn)]) (ly:=[(198,BC),(199,CZ)]) (ls:=[]) rfl rfl rfl ⟨LH,LI,trivial⟩ ⟨Bg3,Bg5,trivial⟩ trivial) (F2 rfl (by kernel_rfl)) follows ?_
 intro args H ret Hc h
 unfold Sl at h
 split at h
 ·rename_i rest n i b st z l
  obtain ⟨h0,h⟩:=C6 h
  obtain ⟨h1,h⟩:=C6 h
  obtain ⟨h2,h⟩:=C6 h
  obtain ⟨h3,h⟩:=C6 h
  obtain ⟨h4,h⟩:=C6 h
  obtain ⟨rfl,rfl⟩:=G1 h
  refine ⟨rfl,rfl,λσ yh s=>?_⟩
  have e:=(Af9 LF yh s 0 rest n i b st z l).trans (NU rest n i b st z l h0 h1 h2 h3 h4)
  exact ⟨1,_,e,rfl⟩
 ·cases h
theorem Bf7:A7 Tryz.prog GX 170 Ab8:=by
 refine A7.fix (pf:=CN) _ (P2 [1,0] (C₀:=S6 LF) (En (lx:=[(97,Sm)]) (ly:=[(189,Sl)]) (ls:=[]) rfl rfl rfl ⟨VM,trivial⟩ ⟨A51,trivial⟩ trivial) (F2 rfl (by kernel_rfl)) follows ?_)
 intro args ret Hc h
 unfold CN at h
 split at h
 ·rename_i s
  obtain ⟨h0,h⟩:=C6 h
  obtain ⟨rfl,rfl⟩:=G1 h
  obtain ⟨rr,hH,ee,qq⟩:=A08 s h0
  exact ⟨rfl,rfl,rfl,1,rr,hH,(A07 LF noY () 0 s).trans ee,qq⟩
 ·cases h
end
end
section
open Go Go.Proofs Go.Sort
set_option maxRecDepth 100000
theorem Aq7:A7 Tryz.prog GX 159 GV:=by
 refine A7.fix (pf:=Ou) _ (K2 (fn:=Tryz.f159) (by kernel_rfl) (by kernel_rfl) (by kernel_rfl) ?_)
 intro args ret Hc h
 unfold Ou at h
 split at h
 ·rename_i s
  obtain ⟨h0,h⟩:=C6 h
  obtain ⟨rfl,rfl⟩:=G1 h
  refine ⟨rfl,rfl,λC hP hCG Γ w Vs hG hlt hc=>?_⟩
  obtain ⟨U,rfl,hu⟩:=hc.arr1
  obtain ⟨s',rfl,rfl⟩:=hu.inv_str
  have hs:=M9 h0
  refine (Any.utf8_ValidString Tryz.lays196 s' w (by simp at hs;omega) (Au6 hG hCG)).mono ?_
  rintro e w' ⟨rfl,hb⟩
  rw [<-SJ]
  exact ⟨_,rfl,hb,VP.mk_bool _⟩
 ·cases h
theorem Aq6:A7 Tryz.prog GX 160 GU:=by
 refine A7.fix (pf:=Ot) _ (K2 (fn:=Tryz.f160) (by kernel_rfl) (by kernel_rfl) (by kernel_rfl) ?_)
 intro args ret Hc h
 unfold Ot at h
 split at h
 ·rename_i s
  obtain ⟨h0,h⟩:=C6 h
  obtain ⟨rfl,rfl⟩:=G1 h
  refine ⟨rfl,rfl,λC hP hCG Γ w Vs hG hlt hc=>?_⟩
  obtain ⟨U,rfl,hu⟩:=hc.arr1
  obtain ⟨s',rfl,rfl⟩:=hu.inv_str
  have hs:=M9 h0
  refine (Any.utf8_RuneCountInString Tryz.lays195 s' w (by simp at hs;omega)).mono ?_
  rintro e w' ⟨rfl,pos,rfl⟩
  rw [Lib.runeCountL_eq]
  exact ⟨_,rfl,MP _ _ _,VP.mk_int _ _⟩
 ·cases h
theorem A40:A7 Tryz.prog GX 107 Ln:=λargs ret Hc h=>by
 have:F6 (Ln args)=none:=by unfold Ln GP;split<;>rfl
 rw [this] at h;cases h
theorem GI:GO Tryz.prog GX 106 Fm:=by
 refine Sd (C₀:=T6 LF) ((K8.ok (l:=[(107,Ln),(108,Tp)]) rfl ⟨A40,SU,trivial⟩)) (F2 rfl (by kernel_rfl)) follows ?_
 intro args H L h σ yh s s' hr
 unfold Fm at h
 split at h
 ·rename_i p t n
  simp only [Option.some.injEq,Prod.mk.injEq] at h
  obtain ⟨h1,rfl⟩:=h
  obtain ⟨t',f⟩:=RW (R:=PV × List Blk × σ) yh p t n s s' h1 hr
  exact ⟨1,_,(Am9 LF yh 0 p t n s).trans (f _)⟩
 ·cases h
end
section
open Go Go.Proofs
set_option maxRecDepth 100000
section
theorem A47:A7 Tryz.prog GX 131 TF:=xf [] (Fu LF) Tk rfl ⟨Bf7,Aq3,trivial⟩ rfl (by kernel_rfl) follows λargs=>by
 unfold Tk;split
 ·rename_i s;exact λh0=>⟨rfl,rfl,rfl,_,_,(Aj8 LF noY () 0 s).trans (PM s h0),rfl⟩
 ·trivial
theorem Aq2:A7 Tryz.prog GX 94 CF:=xf [] (Kv LF) CG rfl ⟨Be1,A47,trivial⟩ rfl (by kernel_rfl) follows λargs=>by
 unfold CG;split
 ·rename_i s;exact λh0=>⟨rfl,rfl,rfl,_,_,(Az1 LF noY () 0 s).trans (YH s h0),rfl⟩
 ·trivial
theorem Aq0:A7 Tryz.prog GX 118 LU:=xf [0,0] (Hq LF) BP rfl ⟨Aq7,Aq6,SQ,Aq3,Aq2,trivial⟩ rfl (by kernel_rfl) follows λargs=>by
 unfold BP;split
 ·rename_i s;exact λh0=>(let ⟨rr,hH,ee,qq⟩:=Aw5 s h0;⟨rfl,rfl,rfl,rr,hH,(Aw4 LF noY () 0 s).trans ee,qq⟩)
 ·trivial
theorem Be3:A7 Tryz.prog GX 156 Aa6:=xf [] (Dz LF) BF rfl trivial rfl (by kernel_rfl) follows λargs=>by
 unfold BF;split
 ·rename_i b;exact λh0=>⟨rfl,rfl,rfl,_,_,(Av2 LF noY () 0 b).trans (WU b h0),rfl⟩
 ·trivial
theorem Ap6:A7 Tryz.prog GX 114 LP:=xf [0,0] (Kq LF) BE rfl ⟨Be3,trivial⟩ rfl (by kernel_rfl) follows λargs=>by
 unfold BE;split
 ·rename_i s;exact λh0=>(let ⟨rr,hH,ee,qq⟩:=Av0 s h0;⟨rfl,rfl,rfl,rr,hH,(Au9 LF noY () 0 s).trans ee,qq⟩)
 ·trivial
theorem A42:A7 Tryz.prog GX 113 TB:=xf [0,0] (DP LF) Td rfl ⟨Bk6,trivial⟩ rfl (by kernel_rfl) follows λargs=>by
 unfold Td;split
 ·rename_i s;exact λh0=>λh1=>(let ⟨rr,hH,ee,qq⟩:=Ai2 s h0 h1;⟨rfl,rfl,rfl,rr,hH,(Ai1 LF noY () 0 s).trans ee,qq⟩)
 ·trivial
theorem Ap8:A7 Tryz.prog GX 85 GR:=xf [0,0] (Cg LF) Oj rfl ⟨SO,A42,Ap6,VR,Qt,Bg0,AY,Aq0,VQ,trivial⟩ rfl (by kernel_rfl) follows λargs=>by
 unfold Oj;split
 ·rename_i s;exact λh0=>(let ⟨rr,hH,ee,qq⟩:=WY s h0;⟨rfl,rfl,rfl,rr,hH,(WX LF noY () 0 s).trans ee,qq⟩)
 ·trivial
theorem A48:A7 Tryz.prog GX 81 CD:=by
 refine A7.fix (pf:=Tl) _ (O8 (C₀:=DU LF) (K8.ok (l:=[]) rfl trivial) (F2 rfl (by kernel_rfl)) follows ?_)
 intro args ret Hc h
 unfold Tl at h
 split at h
 ·rename_i t p n
  obtain ⟨rfl,rfl⟩:=G1 h
  have e:=(Ak0 LF noY () 0 t p n).trans (PN t p n )
  exact ⟨rfl,1,_,[],e,rfl,rfl⟩
 ·cases h
theorem SW:A7 Tryz.prog GX 49 On:=by
 refine A7.fix (pf:=DB) _ (O8 (C₀:=NI LF) (K8.ok (l:=[(81,CD)]) rfl ⟨A48,trivial⟩) (F2 rfl (by kernel_rfl)) follows ?_)
 intro args ret Hc h
 unfold DB at h
 split at h
 ·rename_i t p
  obtain ⟨rfl,rfl⟩:=G1 h
  have e:=(A31 LF noY () 0 t p).trans (ZO t p )
  exact ⟨rfl,1,_,[],e,rfl,rfl⟩
 ·cases h
theorem A74:A7 Tryz.prog GX 59 TC:=by
 refine A7.fix (pf:=LS) _ (P2 [] (C₀:=Hp LF) (En (lx:=[(93,Ep),(49,On),(94,CF)]) (ly:=[]) (ls:=[(106,Fm)]) rfl rfl rfl ⟨Qt,SW,Aq2,trivial⟩ trivial ⟨GI,trivial⟩) (F2 rfl (by kernel_rfl)) follows ?_)
 intro args ret Hc h
 unfold LS at h
 split at h
 ·rename_i s
  obtain ⟨h0,h⟩:=C6 h
  obtain ⟨rfl,rfl⟩:=G1 h
  obtain ⟨rr,hH,ee,qq⟩:=Ba2 s h0
  exact ⟨rfl,rfl,rfl,1,rr,hH,(Ba1 LF noY () 0 s).trans ee,qq⟩
 ·cases h
theorem Be4:A7 Tryz.prog GX 41 Aa7:=by
 refine A7.fix (pf:=BJ) _ (O8 (C₀:=MW LF) (K8.ok (l:=[]) rfl trivial) (F2 rfl (by kernel_rfl)) follows ?_)
 intro args ret Hc h
 unfold BJ at h
 split at h
 ·rename_i t
  obtain ⟨rfl,rfl⟩:=G1 h
  have e:=(Av6 LF noY () 0 t).trans (XA t )
  exact ⟨rfl,1,_,[],e,rfl,rfl⟩
 ·cases h
end
section
theorem Bf5:A7 Tryz.prog GX 143 Ab5:=xf [] (NF LF) CI rfl trivial rfl (by kernel_rfl) follows λargs=>by
 unfold CI;split
 ·rename_i s;exact ⟨rfl,rfl,rfl,_,_,(Az7 LF noY () 0 s).trans (YJ s ),rfl⟩
 ·trivial
theorem Bf4:A7 Tryz.prog GX 144 Ab4:=xf [] (NE LF) CH rfl trivial rfl (by kernel_rfl) follows λargs=>by
 unfold CH;split
 ·rename_i n;exact ⟨rfl,rfl,rfl,_,_,(Az5 LF noY () 0 n).trans (YI n ),rfl⟩
 ·trivial
theorem Bj9:A7 Tryz.prog GX 98 A56:=xf [] (Ad9 LF) LM rfl ⟨Bf5,trivial⟩ rfl (by kernel_rfl) follows λargs=>by
 unfold LM;split
 ·rename_i s p;exact ⟨rfl,rfl,rfl,_,_,(A89 LF noY () 0 s p).trans (Ae5 s p ),rfl⟩
 ·trivial
theorem Bj8:A7 Tryz.prog GX 99 A55:=xf [] (Ad8 LF) LK rfl ⟨Bf4,trivial⟩ rfl (by kernel_rfl) follows λargs=>by
 unfold LK;split
 ·rename_i n m;exact ⟨rfl,rfl,rfl,_,_,(A88 LF noY () 0 n m).trans (Ae4 n m ),rfl⟩
 ·trivial
theorem Bf6:A7 Tryz.prog GX 63 Ab7:=xf [] (Kw LF) CM rfl ⟨VM,Bj9,Bj8,trivial⟩ rfl (by kernel_rfl) follows λargs=>by
 unfold CM;split
 ·rename_i s p;exact λh0=>λh1=>⟨rfl,rfl,rfl,_,_,(A06 LF noY () 0 s p).trans (YT s p h0 h1),rfl⟩
 ·trivial
theorem Bf2:A7 Tryz.prog GX 58 Ab2:=xf [] (NB LF) BZ rfl ⟨A74,trivial⟩ rfl (by kernel_rfl) follows λargs=>by
 unfold BZ;split
 ·rename_i h b;exact λh0=>(let ⟨rr,hH,ee,qq⟩:=Ax9 h b h0;⟨rfl,rfl,rfl,rr,hH,(Ax8 LF noY () 0 h b).trans ee,qq⟩)
 ·trivial
theorem Bk3:A7 Tryz.prog GX 66 A60:=xf [] (Ae1 LF) LW rfl ⟨Bf6,trivial⟩ rfl (by kernel_rfl) follows λargs=>by
 unfold LW;split
 ·rename_i h b s;exact λh0=>λh1=>(let ⟨rr,hH,ee,qq⟩:=Ba9 h b s h0 h1;⟨rfl,rfl,rfl,rr,hH,(Ba8 LF noY () 0 h b s).trans ee,qq⟩)
 ·trivial
theorem Bf0:A7 Tryz.prog GX 92 Ab1:=xf [] (Kt LF) BW rfl ⟨Bf2,trivial⟩ rfl (by kernel_rfl) follows λargs=>by
 unfold BW;split
 ·rename_i l_z l_t l;exact λh0=>λh1=>λh2=>⟨rfl,rfl,rfl,_,_,(Ax6 LF noY () 0 l_z l_t l).trans (XW l_z l_t l h0 h1 h2),rfl⟩
 ·trivial
theorem SP:A7 Tryz.prog GX 57 Th:=xf [] (NA LF) BT rfl ⟨Bf0,trivial⟩ rfl (by kernel_rfl) follows λargs=>by
 unfold BT;split
 ·rename_i l_z l_t l;exact λh0=>λh1=>λh2=>⟨rfl,rfl,rfl,_,_,(Ax3 LF noY () 0 l_z l_t l).trans (XR l_z l_t l h0 h1 h2),rfl⟩
 ·trivial
theorem GF:A7 Tryz.prog GX 60 Kh:=by
 refine A7.fix (pf:=BS) _ (O8 (C₀:=MZ LF) (K8.ok (l:=[]) rfl trivial) (F2 rfl (by kernel_rfl)) follows ?_)
 intro args ret Hc h
 unfold BS at h
 split at h
 ·rename_i l_z l_t l
  obtain ⟨h0,h⟩:=C6 h
  obtain ⟨h1,h⟩:=C6 h
  obtain ⟨rfl,rfl⟩:=G1 h
  have e:=(Ax1 LF noY () 0 l_z l_t l).trans (XQ l_z l_t l h0 h1)
  exact ⟨rfl,1,_,[],e,rfl,rfl⟩
 ·cases h
theorem Be8:A7 Tryz.prog GX 65 Ab0:=xf [0,0] (Ks LF) BQ rfl ⟨Bk3,trivial⟩ rfl (by kernel_rfl) follows λargs=>by
 unfold BQ;split
 ·rename_i l_z l_t l q;exact λh0=>λh1=>λh2=>λh3=>⟨rfl,rfl,rfl,_,_,(Aw9 LF noY () 0 l_z l_t l q).trans (XP l_z l_t l q h0 h1 h2 h3),rfl⟩
 ·trivial
end
end
section
open Go
theorem Re {x:List By} (h:x≠[]):Pj [] x = -1/\Pj x []=1:=by
 cases x with
 | nil=>exact absurd rfl h
 | cons a r=>exact ⟨rfl,rfl⟩
theorem Mu (s:By):(F9 46 s = -1/\s.drop (F9 46 s+1).toNat=s/\rl s=[s])\/(0<=F9 46 s/\F9 46 s<s.length/\rl s=s.drop (F9 46 s+1).toNat::rl (s.take (F9 46 s).toNat)):=by
 rcases Y6 s with ⟨h1,h2⟩ | ⟨p,q,rfl,h1,h2⟩
 ·exact .inl ⟨h2,by rw [h2];rfl,Wr h1⟩
 ·refine .inr ⟨by omega,by rw [h2];simp;omega,?_⟩
  rw [h2,Ws p h1,show ((p.length:Int)+1).toNat=p.length+1 by omega,Int.toNat_natCast,List.take_left]
  congr 1
  simp
theorem Ae7 (a b:By) (i k:Int) (hi:i=F9 46 a) (hk:k=F9 46 b) :
  (T1 (a.drop (i+1).toNat) (b.drop (k+1).toNat)≠0->Q1 a b=T1 (a.drop (i+1).toNat) (b.drop (k+1).toNat))/\
  (T1 (a.drop (i+1).toNat) (b.drop (k+1).toNat)=0->(i<0\/k<0)->Q1 a b=EC (min i 0) (min k 0))/\
  (T1 (a.drop (i+1).toNat) (b.drop (k+1).toNat)=0->0<=i->0<=k->Q1 a b=Q1 (a.take i.toNat) (b.take k.toNat)):=by
 have hcmp:∀ x y:By,Q1 x y=Pj (rl x) (rl y):=λx y=>rfl
 rw [hcmp,hcmp]
 rcases Mu a with ⟨a1,a2,a3⟩ | ⟨a1,a2,a3⟩<;>rcases Mu b with ⟨b1,b2,b3⟩ | ⟨b1,b2,b3⟩<;>rw [<-hi] at a1 a2<;>rw [<-hk] at b1 b2
 ·rw [a2,b2,a3,b3]
  refine ⟨λh=>M5 h,λh _=>?_,λ_ h=>by omega⟩
  rw [U9 h,M4,a1,b1]
  rfl
 ·rw [<-hk] at b3
  rw [a2,a3,b3]
  refine ⟨λh=>M5 h,λh _=>?_,λ_ h=>by omega⟩
  rw [U9 h,M4,(Re (UX _)).1,a1,Int.min_eq_right b1]
  rfl
 ·rw [<-hi] at a3
  rw [b2,b3,a3]
  refine ⟨λh=>M5 h,λh _=>?_,λ_ _ h=>by omega⟩
  rw [U9 h,M4,(Re (UX _)).2,b1,Int.min_eq_right a1]
  rfl
 ·rw [<-hi] at a3
  rw [<-hk] at b3
  rw [a3,b3]
  refine ⟨λh=>M5 h,λh hn=>by omega,λh _ _=>?_⟩
  rw [U9 h,M4]
end
section
open Go Go.Proofs Go.RowKit
set_option maxRecDepth 100000
theorem Bd7 (x:ByteArray) (w:World):Calls Tryz.prog 143 #[.string x] w λe w'=>e = .returned (.bool false)/\w'=w:=by
 go_enter Tryz.func143,Tryz.ntmps143
 go_wp2
 go_ret
 exact ⟨by simp,rfl⟩
theorem Bd6 (x:Int) (w:World):Calls Tryz.prog 144 #[.int .i64 x] w λe w'=>e = .returned (.bool false)/\w'=w:=by
 go_enter Tryz.func144,Tryz.ntmps144
 go_wp2
 go_ret
 exact ⟨by simp,rfl⟩
theorem As5 (x y:Int):EC x y=if x<y then -1 else if y<x then 1 else 0:=by
 unfold EC
 rw [Z0,Z0]
 by_cases h:x<y<;>by_cases g:y<x<;>simp [h,g]
theorem Bj6 (x y:Int) (w:World):Calls Tryz.prog 99 #[.int .i64 x,.int .i64 y] w λe w'=>e = .returned (.int .i64 (EC x y))/\w'=w:=by
 have e7:∀ args w,(callFunc 144 args).run Tryz.prog w = .ok (.enter 144 args) w:=enters_of Tryz.func144 (by kernel_rfl) rfl
 go_enter Tryz.func99,Tryz.ntmps99
 go_wp2_with (go_at_fn 144;refine (Bd6 _ _).mono ?_;rintro e w' ⟨rfl,hw⟩;rw [hw])
 all_goals (go_ret;refine ⟨?_,rfl⟩;rw [As5];(repeat' split)<;>first | rfl | (exfalso;omega))
theorem As4 (x y:ByteArray):T1 x.data.toList y.data.toList=if Op.bytesLess x.toList y.toList=true then -1 else if (!x.toList==y.toList)=true then 1 else 0:=by
 rw [ByteArray.toList_eq,ByteArray.toList_eq,<-Lv]
 generalize x.data.toList=a
 generalize y.data.toList=b
 unfold T1
 cases h:bytesLess a b with
 | true=>rfl
 | false=>
  have e:(!a==b)=bytesLess b a:=by
   rw [Q7] at h ⊢
   have h:=of_decide_eq_false h
   by_cases hab:a=b
   ·subst hab;simp
   ·have:b<a:=by
     apply Decidable.byContradiction
     intro g
     exact hab (List.le_antisymm (List.not_lt.1 g) (List.not_lt.1 h))
    simp [hab,this]
  rw [e]
  cases bytesLess b a<;>rfl
theorem Bj7 (x y:ByteArray) (w:World):Calls Tryz.prog 98 #[.string x,.string y] w λe w'=>e = .returned (.int .i64 (T1 x.data.toList y.data.toList))/\w'=w:=by
 have e7:∀ args w,(callFunc 143 args).run Tryz.prog w = .ok (.enter 143 args) w:=enters_of Tryz.func143 (by kernel_rfl) rfl
 go_enter Tryz.func98,Tryz.ntmps98
 go_wp2_with (go_at_fn 143;refine (Bd7 _ _).mono ?_;rintro e w' ⟨rfl,hw⟩;rw [hw])
 all_goals (go_ret;refine ⟨?_,rfl⟩;rw [As4];(try simp [*]))
theorem Aj2 (s:ByteArray):Lib.lastIndexByte s 46=F9 46 s.data.toList:=by
 have hsz:s.size=s.data.toList.length:=by rw [Array.length_toList];rfl
 have hb:∀ j (hj:j<s.data.toList.length),((s.data[j]!).toNat:Int)=46↔s.data.toList[j]=46:=λj hj=>by
  have hj':j<s.data.size:=by simpa using hj
  rw [getElem!_pos s.data j hj',Array.getElem_toList]
  constructor
  ·intro h
   exact UInt8.toNat_inj.1 (show s.data[j].toNat=46 by omega)
  ·intro h
   rw [h]
   rfl
 rcases Lib.lastIndexByte_spec s 46 with ⟨e,hn⟩ | ⟨i,hi,e,hc,hn⟩
 ·rw [e]
  rcases Y6 s.data.toList with ⟨_,h2⟩ | ⟨p,q,h1,h2,h3⟩
  ·exact h2.symm
  ·have hp:p.length<s.data.toList.length:=by rw [h1];simp
   exact absurd ((hb p.length hp).2 (by simp [h1])) (hn p.length (by omega))
 ·rw [e]
  have hi':i<s.data.toList.length:=by omega
  have hci:=(hb i hi').1 hc
  rcases Y6 s.data.toList with ⟨h1,_⟩ | ⟨p,q,h1,h2,h3⟩
  ·exact absurd (hci ▸ List.getElem_mem hi') h1
  ·rw [h3]
   have hp:p.length<s.data.toList.length:=by rw [h1];simp
   have hcp:=(hb p.length hp).2 (by simp [h1])
   by_cases h4:i<p.length
   ·exact absurd hcp (hn p.length h4 (by omega))
   ·by_cases h5:p.length<i
    ·refine absurd ?_ h2
     have:s.data.toList[i]? = some 46:=by rw [List.getElem?_eq_getElem hi',hci]
     rw [h1,List.getElem?_append_right (by omega),show i-p.length=(i-p.length-1)+1 by omega,List.getElem?_cons_succ] at this
     exact List.mem_of_getElem? this
    ·omega
theorem Ao6 (s:ByteArray) (hs:s.size<4611686018427387904) (w:World):Calls Tryz.prog 97 #[.string s,.int .u8 46] w λe w'=>e = .returned (.int .i64 (F9 46 s.data.toList))/\w'=w:=by
 rw [<-Aj2]
 exact Any.strings_LastIndexByte Tryz.lays149 s 46 hs w
theorem KP (s:ByteArray) (l:Int) (h0:0<=l) (h1:l<=s.size) (w:World):(Instr.sliceAt 9 (.string s) (some (.int .i64 l)) none none).run Tryz.prog w = .ok (.string (s.extract l.toNat s.size)) w:=by
 simp [Instr.sliceAt,Instr.slice,run_underlying Tryz.underlying9,Instr.sliceBounds,run_sliceBound,Result.andThen,h0,h1]
theorem An3 (s:ByteArray) (l:Int) (h0:0<=l) (h1:l<=s.size) (w:World):(Instr.sliceAt 9 (.string s) none (some (.int .i64 l)) none).run Tryz.prog w = .ok (.string (s.extract 0 l.toNat)) w:=by
 simp [Instr.sliceAt,Instr.slice,run_underlying Tryz.underlying9,Instr.sliceBounds,run_sliceBound,Result.andThen,h0,h1]
theorem IJ (s:ByteArray) (n:Nat):(s.extract n s.size).data.toList=s.data.toList.drop n:=by
 rw [ByteArray.data_extract,Array.toList_extract]
 simp only [List.extract]
 exact List.take_of_length_le (by rw [List.length_drop,Array.length_toList];exact Nat.le_refl _)
theorem Ag8 (s:ByteArray) (n:Nat):(s.extract 0 n).data.toList=s.data.toList.take n:=by
 rw [ByteArray.data_extract,Array.toList_extract]
 simp [List.extract]
set_option maxHeartbeats 4000000 in theorem Bd9 (a b:ByteArray) (ha:a.size<=1000000000) (hb:b.size<=1000000000) (w:World):Calls Tryz.prog 63 #[.string a,.string b] w λe w'=>e = .returned (.int .i64 (Q1 a.data.toList b.data.toList))/\∃ q,w'=w.drewN q:=by
 have eL:∀ args w,(callFunc 97 args).run Tryz.prog w = .ok (.enter 97 args) w:=enters_of Tryz.func97 (by kernel_rfl) rfl
 have eS:∀ args w,(callFunc 98 args).run Tryz.prog w = .ok (.enter 98 args) w:=enters_of Tryz.func98 (by kernel_rfl) rfl
 have eI:∀ args w,(callFunc 99 args).run Tryz.prog w = .ok (.enter 99 args) w:=enters_of Tryz.func99 (by kernel_rfl) rfl
 go_enter Tryz.func63,Tryz.ntmps63
 go_wp2
 go_step3
 go_wp2
 try go_step3
 try go_wp2
 go_loopw [0,1] (λva vb wr=>∃ (x y:ByteArray) (n:Nat),va = .string x/\vb = .string y/\x.size<=1000000000/\y.size<=1000000000/\wr=w.drewN n/\Hid (Q1 a.data.toList b.data.toList=Q1 x.data.toList y.data.toList)) (λva _ _=>match va with | .string x=>x.size | _=>0)
 case atStart=>exact ⟨a,b,0,rfl,rfl,ha,hb,rfl,rfl⟩
 case round=>
  obtain ⟨x,y,n,rfl,rfl,hx,hy,hwr,hh⟩:=hrel
  obtain ⟨i,hi⟩:∃ i,i=F9 46 x.data.toList:=⟨_,rfl⟩
  obtain ⟨k,hk⟩:∃ k,k=F9 46 y.data.toList:=⟨_,rfl⟩
  have hxl:x.data.toList.length=x.size:=by rw [Array.length_toList];rfl
  have hyl:y.data.toList.length=y.size:=by rw [Array.length_toList];rfl
  have hi1:-1<=i/\i<x.size:=by rcases Mu x.data.toList with ⟨h,_⟩ | ⟨h,h',_⟩<;>omega
  have hk1:-1<=k/\k<y.size:=by rcases Mu y.data.toList with ⟨h,_⟩ | ⟨h,h',_⟩<;>omega
  obtain ⟨hi1,hi2⟩:=hi1
  obtain ⟨hk1,hk2⟩:=hk1
  have wx:∀ w,Calls Tryz.prog 97 #[.string x,.int .u8 46] w λe w'=>e = .returned (.int .i64 i)/\w'=w:=by rw [hi];exact Ao6 x (by omega)
  have wy:∀ w,Calls Tryz.prog 97 #[.string y,.int .u8 46] w λe w'=>e = .returned (.int .i64 k)/\w'=w:=by rw [hk];exact Ao6 y (by omega)
  have HI:Hid (i=F9 46 x.data.toList):=hi
  have HK:Hid (k=F9 46 y.data.toList):=hk
  have HW:Hid (wr=w.drewN n):=hwr
  clear hi hk hxl hyl hwr
  go_wp2_with (go_at_fn 97;refine (wx _).mono ?_;rintro e w' ⟨rfl,hw⟩;rw [hw])
  clear wx
  go_wp2_with (go_at_fn 97;refine (wy _).mono ?_;rintro e w' ⟨rfl,hw⟩;rw [hw])
  clear wy
  have ei:IntKind.i64.wrap (i+1)=i+1:=by simp [IntKind.wrap,IntKind.bits,IntKind.signed];omega
  have ek:IntKind.i64.wrap (k+1)=k+1:=by simp [IntKind.wrap,IntKind.bits,IntKind.signed];omega
  have s1:=KP x (i+1) (by omega) (by omega)
  have s2:=KP y (k+1) (by omega) (by omega)
  go_quiet (first | (go_at_call 98;exact Calls.quiet_of_same (Bj7 _ _ _)))
  rw [IJ,IJ]
  obtain ⟨c,hc⟩:∃ c,c=T1 (x.data.toList.drop (i+1).toNat) (y.data.toList.drop (k+1).toNat):=⟨_,rfl⟩
  rw [<-hc]
  have HC:Hid (c=T1 (x.data.toList.drop (i+1).toNat) (y.data.toList.drop (k+1).toNat)):=hc
  clear hc s1 s2 ei ek eS
  obtain ⟨w2,hw2⟩:∃ w2,w2=wr.drewN nq:=⟨_,rfl⟩
  rw [<-hw2]
  have HW2:Hid (w2=w.drewN (n+nq)):=by rw [hw2,HW.out,World.drewN_drewN];rfl
  clear hw2
  generalize n+nq=n2 at HW2
  have FIN:Hid (∀ v,v=Q1 x.data.toList y.data.toList->(Ending.returned (.int .i64 v)=Ending.returned (.int .i64 (Q1 a.data.toList b.data.toList))/\∃ m,w2=w.drewN m)):=λv hv=>⟨by rw [hh.out,hv],n2,HW2.out⟩
  have st:=Ae7 x.data.toList y.data.toList i k HI.out HK.out
  rw [<-HC.out] at st
  have ST:Hid (_/\_/\_):=st
  clear st
  go_wp2_with (go_at_fn 99;refine (Bj6 _ _ _).mono ?_;rintro e w' ⟨rfl,hw⟩;rw [hw])
  ·have hc0:c≠0:=by simpa using ‹(c != 0)=true›
   simp only [Exit.noGoto_ret]
   go_ret
   exact FIN.out _ (ST.out.1 hc0).symm
  ·have hc0:c=0:=by simpa using ‹(c != 0)=false›
   simp only [Exit.noGoto_ret]
   go_ret
   exact FIN.out _ (ST.out.2.1 hc0 (by omega)).symm
  ·have hc0:c=0:=by simpa using ‹(c != 0)=false›
   have s3:=An3 x i (by omega) (by omega)
   have s4:=An3 y k (by omega) (by omega)
   have E:=ST.out.2.2 hc0 (by omega) (by omega)
   have HE:Hid (Q1 x.data.toList y.data.toList=Q1 (x.data.toList.take i.toNat) (y.data.toList.take k.toNat)):=E
   clear E
   go_quiet (fail)
   go_wp2
   go_roundw
   case rel=>exact ⟨x.extract 0 i.toNat,y.extract 0 k.toNat,n2+nq,rfl,rfl,by simp [ByteArray.size_extract];omega,by simp [ByteArray.size_extract];omega,by rw [HW2.out,World.drewN_drewN],by rw [hh.out,HE.out,Ag8,Ag8];rfl⟩
   case measure=>simp [ByteArray.size_extract];omega
  ·have hc0:c=0:=by simpa using ‹(c != 0)=false›
   simp only [Exit.noGoto_ret]
   go_ret
   exact FIN.out _ (ST.out.2.1 hc0 (by omega)).symm
theorem Ah6 (w:World) (A B:Obj) (n:Nat):((w.alloc A).alloc B).drewN n=Sort.grow (w.drewN n) #[A,B]:=by
 have h:(w.heap.push A).push B=w.heap++#[A,B]:=by apply Array.toList_inj.1;simp
 show ({ (w.drewN n) with heap:=(w.heap.push A).push B }:World) = { (w.drewN n) with heap:=w.heap++#[A,B] }
 rw [h]
theorem Bd8 (a b:ByteArray) (p q:Bool) (ha:a.size<=1000000000) (hb:b.size<=1000000000) (w:World):Calls Tryz.prog 62 #[.agg #[.string a,.bool p],.agg #[.string b,.bool q]] w λe w'=>e = .returned (.int .i64 (Q1 a.data.toList b.data.toList))/\∃ n os,w'=Sort.grow (w.drewN n) os:=by
 have eC:∀ args w,(callFunc 63 args).run Tryz.prog w = .ok (.enter 63 args) w:=enters_of Tryz.func63 (by kernel_rfl) rfl
 go_enter Tryz.func62,Tryz.ntmps62
 go_wp2_with (go_at_fn 63;refine (Bd9 _ _ ha hb _).mono ?_;rintro e w' ⟨rfl,m0,hw⟩;rw [hw])
 go_ret
 refine ⟨rfl,m0,#[.cells #[.string a,.bool p] 63,.cells #[.string b,.bool q] 63],?_⟩
 exact Ah6 _ _ _ _
end
end Go.Proofs.YtelhbgonncceeaaGreatDoor.E
namespace Go.Proofs
open Go.Shelf
def Tryz.sortEnt_ren:Go.Shelf.Ren:=⟨fun | 6=>61 | 15=>96 | 14=>95 | 28=>140 | 29=>141 | 20=>132 | 21=>133 | 22=>134 | 23=>135 | 24=>136 | 25=>137 | 26=>138 | 27=>139 | 46=>171 | 47=>172 | 48=>173 | 49=>174 | 50=>175 | 57=>190 | n=>n,fun | 22=>23 | 24=>63 | 25=>103 | 3=>3 | 39=>139 | 0=>0 | 53=>24 | 55=>168 | 4=>4 | 46=>161 | 45=>160 | 50=>84 | 5=>5 | 9=>9 | 66=>182 | 70=>186 | 76=>201 | 77=>202 | n=>n,fun | n=>n⟩
theorem Tryz.sortEnt:Go.Proofs.SlLaysF0.n6 Tryz.prog Tryz.sortEnt_ren:={
 mixed:=by kernel_rfl
 f6:=⟨Tryz.f61.name,by decide,Tryz.func61.trans (congrArg some (by kernel_rfl))⟩
 f14:=⟨Tryz.f95.name,by decide,Tryz.func95.trans (congrArg some (by kernel_rfl))⟩
 f15:=Tryz.func96.trans (congrArg some (by kernel_rfl))
 f20:=⟨Tryz.f132.name,by decide,Tryz.func132.trans (congrArg some (by kernel_rfl))⟩
 f21:=⟨Tryz.f133.name,by decide,Tryz.func133.trans (congrArg some (by kernel_rfl))⟩
 f22:=⟨Tryz.f134.name,by decide,Tryz.func134.trans (congrArg some (by kernel_rfl))⟩
 f23:=⟨Tryz.f135.name,by decide,Tryz.func135.trans (congrArg some (by kernel_rfl))⟩
 f24:=⟨Tryz.f136.name,by decide,Tryz.func136.trans (congrArg some (by kernel_rfl))⟩
 f25:=⟨Tryz.f137.name,by decide,Tryz.func137.trans (congrArg some (by kernel_rfl))⟩
 f26:=⟨Tryz.f138.name,by decide,Tryz.func138.trans (congrArg some (by kernel_rfl))⟩
 f27:=⟨Tryz.f139.name,by decide,Tryz.func139.trans (congrArg some (by kernel_rfl))⟩
 f28:=Tryz.func140.trans (congrArg some (by kernel_rfl))
 f29:=Tryz.func141.trans (congrArg some (by kernel_rfl))
 f46:=⟨Tryz.f171.name,by decide,Tryz.func171.trans (congrArg some (by kernel_rfl))⟩
 f47:=Tryz.func172.trans (congrArg some (by kernel_rfl))
 f48:=Tryz.func173.trans (congrArg some (by kernel_rfl))
 f49:=⟨Tryz.f174.name,by decide,Tryz.func174.trans (congrArg some (by kernel_rfl))⟩
 f50:=⟨Tryz.f175.name,by decide,Tryz.func175.trans (congrArg some (by kernel_rfl))⟩
 f57:=⟨Tryz.f190.name,by decide,Tryz.func190.trans (congrArg some (by kernel_rfl))⟩
 t0:=Tryz.underlying0
 a0:=Tryz.isAgg0
 z0:=Tryz.sizeOf0
 v0:=Tryz.zeroValue0
 t3:=Tryz.underlying3
 a3:=Tryz.isAgg3
 z3:=Tryz.sizeOf3
 v3:=Tryz.zeroValue3
 t4:=Tryz.underlying4
 a4:=Tryz.isAgg4
 z4:=Tryz.sizeOf4
 v4:=Tryz.zeroValue4
 t5:=Tryz.underlying5
 a5:=Tryz.isAgg5
 z5:=Tryz.sizeOf5
 v5:=Tryz.zeroValue5
 t9:=Tryz.underlying9
 a9:=Tryz.isAgg9
 z9:=Tryz.sizeOf9
 v9:=Tryz.zeroValue9
 t22:=Tryz.underlying23
 a22:=Tryz.isAgg23
 z22:=Tryz.sizeOf23
 v22:=Tryz.zeroValue23
 t25:=Tryz.underlying103
 a25:=Tryz.isAgg103
 z25:=Tryz.sizeOf103
 v25:=Tryz.zeroValue103
 t39:=Tryz.underlying139
 a39:=Tryz.isAgg139
 z39:=Tryz.sizeOf139
 v39:=Tryz.zeroValue139
 t45:=Tryz.underlying160
 a45:=Tryz.isAgg160
 z45:=Tryz.sizeOf160
 v45:=Tryz.zeroValue160
 t46:=Tryz.underlying161
 a46:=Tryz.isAgg161
 z46:=Tryz.sizeOf161
 v46:=Tryz.zeroValue161
 t50:=Tryz.underlying84
 a50:=Tryz.isAgg84
 z50:=Tryz.sizeOf84
 v50:=Tryz.zeroValue84
 t53:=Tryz.underlying24
 a53:=Tryz.isAgg24
 z53:=Tryz.sizeOf24
 v53:=Tryz.zeroValue24
 t55:=Tryz.underlying168
 a55:=Tryz.isAgg168
 z55:=Tryz.sizeOf168
 v55:=Tryz.zeroValue168
 t66:=Tryz.underlying182
 a66:=Tryz.isAgg182
 z66:=Tryz.sizeOf182
 v66:=Tryz.zeroValue182
 t70:=Tryz.underlying186
 a70:=Tryz.isAgg186
 z70:=Tryz.sizeOf186
 v70:=Tryz.zeroValue186
 t76:=Tryz.underlying201
 a76:=Tryz.isAgg201
 z76:=Tryz.sizeOf201
 v76:=Tryz.zeroValue201
 t77:=Tryz.underlying202
 a77:=Tryz.isAgg202
 z77:=Tryz.sizeOf202
 v77:=Tryz.zeroValue202 }
end Go.Proofs
namespace Go.Proofs.YtelhbgonncceeaaGreatDoor.E
set_option linter.all false
section
open Go Go.Proofs Go.RowKit Go.Sort
set_option maxRecDepth 100000
abbrev cfE:Ke->Ke->Int:=λx y=>Q1 x.1.1 y.1.1
def Mc (e:Ke):List Value:=[.string ⟨e.1.1.toArray⟩,.bool e.1.2]
theorem Ae6 (blk off size:Nat) (w:World):CmpLays Tryz.prog 62 #[] Mc 2 cfE blk off size w:=by
 intro m os dk hs x y
 have h:=Bd8 ⟨x.1.1.toArray⟩ ⟨y.1.1.toArray⟩ x.1.2 y.1.2 (by have:=x.2;simpa [ByteArray.size] using this) (by have:=y.2;simpa [ByteArray.size] using this) (sortWorldK Mc 2 w blk off m dk os)
 exact h
theorem Am0 {w:World} {blk e:Nat} {cur:Array Value} {fr:Nat × Nat} (h:w.heap[blk]? = some (.cells cur e fr)) (d:Array Ke) :
  (putRowK Mc 2 w blk 0 d).heap[blk]? = some (.cells (putCells id 0 (flatK Mc 2 d) cur) e fr)/\(∀ k,k≠blk->(putRowK Mc 2 w blk 0 d).heap[k]? = w.heap[k]?):=by
 unfold putRowK putRow mapBlock
 constructor
 ·simp only [Array.getElem?_modify,if_true,h,Option.map_some,onCells]
 ·intro k hk
  simp only [Array.getElem?_modify]
  rw [if_neg (λe=>hk e.symm)]
theorem A24 {cur:Array Value} {d:Array Ke} {i j:Nat} (hi:i<d.size) (hj:j<2) (hs:d.size*2<=cur.size):(putCells id 0 (flatK Mc 2 d) cur)[i*2+j]? = some ((Mc d[i]!)[j]!):=by
 have hlt:i*2+j<d.size*2:=by omega
 have hc:i*2+j<cur.size:=by omega
 unfold putCells
 rw [Array.getElem?_mapIdx,Array.getElem?_eq_getElem hc]
 simp only [Option.map_some,size_flatK,Nat.zero_le,true_and,Nat.zero_add,hlt,if_true,Nat.sub_zero,id]
 rw [get_flatK _ _ _ _ hlt,show (i*2+j) / 2=i by omega,show (i*2+j) % 2=j by omega]
theorem GK:GW Tryz.prog 61 Ki:=by
 intro St w x X els hx h
 generalize hp:Ki x els=pr at h ⊢
 obtain ⟨b,L⟩:=pr
 dsimp only at h ⊢
 unfold Ki at hp
 split at hp
 case h_2=>
  obtain ⟨rfl,_⟩:=Prod.mk.inj hp
  cases h
 have eX:X = .func (.func 62) #[] #[]:=by
  cases hx with
  | fn _ _ _ A B As Bs _ hA hB _ _ _ _=>
   have:A = #[]:=by simpa using hA
   have:B = #[]:=by simpa using hB
   simp_all
 subst eX
 obtain ⟨hb,hL⟩:=Prod.mk.inj hp
 rw [<-hb] at h
 simp only [Bool.and_eq_true] at h
 obtain ⟨h0,h1,h2⟩:=h
 have none':∀ (p:Option Addr) cap,K5 Tryz.prog ((callFunc 61 #[.slice p 0 cap,.func (.func 62) #[] #[]]).run Tryz.prog w) λV w'=>V=undef/\w'=w:=λp cap=>
  Ab (fn:=Tryz.f61) (by kernel_rfl) (by kernel_rfl) (by kernel_rfl) ((AnyF.slices_SortFunc_none Tryz.sortEnt p cap _ w).mono λe w' ⟨he,hw⟩=>⟨_,he,rfl,hw⟩)
 obtain ⟨E,rfl⟩:∃ E,els=D7 E:=⟨_,Bi h0⟩
 rw [Me] at hL
 subst hL
 have hsm:=Am8 h1
 have hlen:=(Cz hsm).length_eq
 refine ⟨λhn=>?_,?_⟩
 ·have hE:E=[]:=by
   cases E with
   | nil=>rfl
   | cons a r=>cases hn
  subst hE
  refine (none' none 0).mono λV w' ⟨hv,hw⟩=>⟨hv,?_,hw ▸ J2.refl _⟩
  have:Q4 []=[]:=List.length_eq_zero_iff.1 hlen
  rw [this];rfl
 intro g0 cur e sz cap hg hcs hle hcap hst hlt hsz hcells
 by_cases hn:E=[]
 ·subst hn
  have hs0:Q4 []=[]:=List.length_eq_zero_iff.1 hlen
  refine (none' _ cap).mono λV w' ⟨hv,hw⟩=>?_
  rw [hw]
  rw [hs0]
  exact ⟨hv,rfl,w,cur,hg,rfl,λ_ _=>rfl,rfl,rfl,rfl,rfl,λi h=>absurd h (Nat.not_lt_zero _),λi h=>absurd h (Nat.not_lt_zero _),J2.refl _⟩
 have hE:0<E.length:=List.length_pos_iff.2 hn
 have hel:∀ i (h:i<(D7 E).length),(D7 E)[i]=Md (E[i]'(by simpa using h)):=λi h=>by simp [D7]
 have hs2:sz=2:=by
  have:=hsz 0 (by simpa using hE)
  rw [<-this,hel];rfl
 subst hs2
 obtain ⟨d,hd⟩:∃ d,(E.map mkS).toArray=d:=⟨_,rfl⟩
 have dsz:d.size=E.length:=by rw [<-hd];simp
 have dval:∀ i (hi:i<E.length),(d[i]!).1=E[i]:=λi hi=>by
  subst hd
  rw [getElem!_pos _ _ (by simpa using hi)]
  simp only [List.getElem_toArray,List.getElem_map]
  exact UK (hsm _ (List.getElem_mem hi))
 have hcell:∀ t,t<d.size*2->cur[t]? = some ((Mc d[t / 2]!)[t % 2]!):=λt ht=>by
  have hi:t / 2<E.length:=by omega
  have hi':t / 2<(D7 E).length:=by simpa using hi
  have hl:((D7 E)[t / 2]).length=2:=by rw [hel];rfl
  obtain ⟨V,hV,hs⟩:=hcells (t / 2) hi' (t % 2) (by rw [hl];omega)
  rw [show t / 2*2+t % 2=t by omega] at hV
  have hx:((D7 E)[t / 2][t % 2]'(by rw [hl];omega))=(Md E[t / 2])[t % 2]'(by show t % 2<2;omega):=by simp only [hel]
  rw [hx] at hs
  rw [hV]
  have dv:=dval _ hi
  rcases (show t % 2=0\/t % 2=1 by omega) with h | h
  ·have hs:VS St w (.str (E[t / 2]).1) V:=by simpa [h,Md] using hs
   obtain ⟨s,hV2,hs2⟩:=hs.inv_str
   rw [hV2,h]
   show _=some (Value.string ⟨(d[t / 2]!).1.1.toArray⟩)
   rw [dv,<-hs2]
  ·have hs:VS St w (.bool (E[t / 2]).2) V:=by simpa [h,Md] using hs
   rw [hs.inv_bool,h]
   show _=some (Value.bool (d[t / 2]!).1.2)
   rw [dv]
 have hH:HoldsK Mc 2 w g0 0 d:=λj hj=>by
  have hj':j<d.size*2:=by simpa using hj
  constructor
  ·simp only [World.cell?,hg,Nat.zero_add]
   rw [get_flatK _ _ _ _ hj']
   exact hcell j hj'
  ·simp [World.frozen?,hg]
 have hblk:g0<w.heap.size:=(Array.getElem?_eq_some_iff.1 hg).1
 have eg:∀ args w,(callFunc 62 args).run Tryz.prog w = .ok (.enter 62 args) w:=enters_of Tryz.func62 (by kernel_rfl) rfl
 have hm:cap<=9223372036854775807:=hcap
 have h2:(A2 (D7 E).length)=true:=h2
 have hb:d.size<4611686018427387904:=by
  have:=M9 h2
  rw [C9] at this
  omega
 have hh:=AnyQ.slices_SortFunc_eq Tryz.sortEnt 2 (λw=>by kernel_rfl) (λw=>by kernel_rfl) Mc (λ_=>rfl) (λx v hv=>by simp [Mc] at hv;rcases hv with rfl | rfl<;>rfl) cfE (KQ λx:Ke=>x.1.1) 62 #[] g0 0 cap d w eg (Ae6 g0 0 d.size w) hH hblk hb
 have hsrt:=Xa d
 have hS:Q4 E=(Ek d).toList.map (·.1):=by unfold Q4;rw [hd]
 have ssz:(Ek d).size=d.size:=hsrt.2.1
 rw [show (D7 E).length=d.size by rw [C9,dsz]]
 refine Ab (fn:=Tryz.f61) (by kernel_rfl) (by kernel_rfl) (by kernel_rfl) (hh.mono λe' w' ⟨he,n,os,hw⟩=>⟨_,he,rfl,by rw [C9,hlen,dsz],?_⟩)
 have hcur:cur.size=cap*2:=hcs
 have hcap2:d.size*2<=cur.size:=by
  have:(D7 E).length<=cap:=hle
  rw [C9] at this
  omega
 obtain ⟨p1,p2⟩:=Am0 hg (Ek d)
 have hel2:∀ i (h:i<(D7 (Q4 E)).length),(D7 (Q4 E))[i]=Md ((Ek d)[i]!).1:=λi h=>by
  have hi:i<(Ek d).size:=by rw [C9,hlen] at h;omega
  rw [getElem!_pos (Ek d) i hi]
  simp [D7,hS]
 refine ⟨putRowK Mc 2 w g0 0 (Ek d),putCells id 0 (flatK Mc 2 (Ek d)) cur,p1,by simp [putCells],p2,by simp [putRowK,putRow,mapBlock],rfl,rfl,rfl,λi h=>by rw [hel2];rfl,λi h j h'=>?_,?_⟩
 ·have hl:((D7 (Q4 E))[i]).length=2:=by rw [hel2];rfl
  have hj:j<2:=by rw [<-hl];exact h'
  have hi:i<(Ek d).size:=by rw [C9,hlen] at h;omega
  refine ⟨_,A24 hi hj (by omega),?_⟩
  have hx:(D7 (Q4 E))[i][j]=(Md ((Ek d)[i]!).1)[j]'(by show j<2;exact hj):=by simp only [hel2]
  rw [hx]
  rcases (show j=0\/j=1 by omega) with rfl | rfl
  ·have:=VS.str (St:=St) (w:=putRowK Mc 2 w g0 0 (Ek d)) ⟨((Ek d)[i]!).1.1.toArray⟩
   exact this
  ·exact VS.bool _
 ·rw [hw]
  refine ⟨⟨λg hgl=>heap_grow_old _ _ hgl,by simp only [sortWorldK,grow,Array.size_append];exact Nat.le_add_right _ _⟩,rfl,rfl,rfl⟩
end
section
open Go Go.Proofs Go.Sort
set_option maxRecDepth 100000
theorem A52:GO Tryz.prog GX 76 BK:=by
 refine Sd (C₀:=Iz LF) ((K8.ok (l:=[(59,TC),(50,Kk)]) rfl ⟨A74,GG,trivial⟩)) (F2 rfl (by kernel_rfl)) follows ?_
 intro args H L h σ yh s s' hr
 unfold BK at h
 split at h
 ·rename_i t
  simp only [Option.some.injEq,Prod.mk.injEq] at h
  obtain ⟨h1,rfl⟩:=h
  obtain ⟨t',f⟩:=OR (R:=PV × List Blk × σ) yh t s s' h1 hr
  exact ⟨1,_,(Ai5 LF yh 0 t s).trans (f _)⟩
 ·cases h
end
section
open Go Go.Proofs
set_option maxRecDepth 100000
section
theorem Bf1:A7 Tryz.prog GX 26 BX:=by
 refine A7.fix (pf:=Fl) _ (Xm [0,0] [2] (C₀:=Hr LF) (Aq9 (lx:=[(57,Th),(60,Kh)]) (ly:=[]) (ls:=[]) (lz:=[(61,Ki)]) rfl rfl rfl rfl ⟨SP,GF,trivial⟩ trivial trivial ⟨GK,trivial⟩) (F2 rfl (by kernel_rfl)) follows ?_)
 intro args ret Hc h
 unfold Fl at h
 split at h
 ·rename_i l_z l_t l
  obtain ⟨h0,h⟩:=C6 h
  obtain ⟨h1,h⟩:=C6 h
  obtain ⟨h2,h⟩:=C6 h
  obtain ⟨h3,h⟩:=C6 h
  rcases Nv h with ⟨h4,h⟩ | ⟨h4,h⟩
  ·skip
   obtain ⟨rfl,rfl⟩:=G1 h
   obtain ⟨rr,hH,ee,qq⟩:=UD l_z l_t l h0 h1 h2 h3 h4
   exact ⟨rfl,rfl,rfl,1,rr,hH,(So LF noY () 0 l_z l_t l).trans ee,qq⟩
  ·skip
   obtain ⟨rfl,rfl⟩:=G1 h
   obtain ⟨rr,hH,ee,qq⟩:=UD l_z l_t l h0 h1 h2 h3 h4
   exact ⟨rfl,rfl,rfl,1,rr,hH,(So LF noY () 0 l_z l_t l).trans ee,qq⟩
 ·cases h
end
section
theorem Be7:A7 Tryz.prog GX 12 LT:=xf [] (Kr LF) BO rfl trivial rfl (by kernel_rfl) follows λargs=>by
 unfold BO;split
 ·rename_i l_z l_t l n;exact λh0=>λh1=>⟨rfl,rfl,rfl,_,_,(Aw2 LF noY () 0 l_z l_t l n).trans (XL l_z l_t l n h0 h1),rfl⟩
 ·trivial
end
section
variable {σ R : Type} (lf : Nat) (cl : E1) (yh : Yh σ) (s : σ) (k : Out -> St σ -> Option R)
noncomputable def MY (lf:Nat):Cfg:=D2 lf [110] (A3 []) [] (A3 [(1,[2]),(0,[0])]) [] (A3 []) (some [2]) [] [] []
noncomputable def Av9 {R:Type} (lf:Nat) (b0:Int) (k0:Bool->Option R):Option R:=cond (b0==32) (k0 true) (k0 (b0==9))
theorem Aw0 (d:Nat) (b0):evC (MY lf) (d+1) σ yh 110 [p8 b0] [] s=Av9 lf b0 (λr0=>some (pB r0,[],s)):=by
 refine (evE (fn:=Tryz.f110) (by kernel_rfl)).trans ?_
 generalize evC (MY lf) d=cl
 unfold Av9;kernel_rfl
noncomputable def DQ (lf:Nat):Cfg:=D2 lf [83] (A3 []) [(110,Aa8)] (A3 [(1,[2]),(0,[0])]) [110] (A3 []) (some [2]) [] [] []
noncomputable def TW {R:Type} (lf:Nat) (b0:Int) (k0:Bool->Option R):Option R:=cond (XF b0) (k0 true) (cond (b0==10) (k0 true) (cond (b0==12) (k0 true) (k0 (b0==13))))
theorem Ai9 (d:Nat) (b0):evC (DQ lf) (d+1) σ yh 83 [p8 b0] [] s=TW lf b0 (λr0=>some (pB r0,[],s)):=by
 refine (evE (fn:=Tryz.f83) (by kernel_rfl)).trans ?_
 generalize evC (DQ lf) d=cl
 unfold TW;kernel_rfl
noncomputable abbrev Fq:Code:=F0 Tryz.f51
noncomputable def P6 (lf:Nat):Cfg:=D2 lf [51] (A3 [(4,[0,1,0,0,0])]) [(83,TD)] (A3 [(10,[2]),(5,[0,2,0,0]),(9,[0,2,0,0]),(8,[0,2,1]),(7,[0,2,0,0,19]),(6,[0,2,0,0,16]),(4,[0,2,0,0,3]),(3,[0,2,0,0]),(2,[0,2,0]),(1,[0,2]),(0,[0])]) [83] (A3 [(0,[3]),(1,[0,2,0,0])]) (some [2]) [] [] []
noncomputable def Fj {R:Type} (s0:By) (from1 i2:Int) (l4:LL) (k0:By->Int->Int->LL->Option R):Option R:=cond (ltI from1 i2) (cond (Z4 from1 i2 s0.length) (cond (K4 (l4.length+1)) (k0 s0 (A4 (i2+1)) i2 (l4++[[(SV.str (cut s0 from1 i2))]])) none) none) (k0 s0 (A4 (i2+1)) i2 l4)
abbrev Ll (b:Code):Prop:=∀ (k:Out->St σ->Option R) s0 from1 i2 b3 l4,A8 (P6 lf) cl yh b ⟨gp [(0,pS s0),(2,.fl 0),(0,pI from1),(0,pI i2),(16,pB b3)] 13,[.arr true 9 1 l4],s⟩ k=Fj s0 from1 i2 l4 (λs0 from1 i2 l3=>k .normal ⟨gp [(0,pS s0),(2,.fl 0),(0,pI from1),(0,pI i2)] 30,[.arr true 9 1 l3],s⟩)
theorem LB:Ll (R:=R) lf cl yh s (cd [1,1,1,0,1,0,0,1,0,0,1] Fq):=by
 intro k s0 from1 i2 b3 l4;unfold Fj;kernel_rfl
noncomputable def Q6 {R:Type} (lf n:Nat) (s0:By) (from1 i2:Int) (l3:LL) (k0:LL->Option R):Option R:=match n with | 0=>none | n+1=>cond (not (ltI (s0.length:Int) i2)) (cond (ltI i2 (s0.length:Int)) (cond (inR i2 s0.length) (cond (not (Vo (bAt s0 i2))) (Q6 lf n s0 from1 (A4 (i2+1)) l3 k0) (Fj s0 from1 i2 l3 (λs'0 from'1 i'2 l'3=>Q6 lf n s'0 from'1 (A4 (i'2+1)) l'3 k0))) none) (Fj s0 from1 i2 l3 (λs'4 from'5 i'6 l'7=>Q6 lf n s'4 from'5 (A4 (i'6+1)) l'7 k0))) (k0 l3)
theorem LC (b_11101001001:Code) (h_words_j0:Ll (R:=R) lf cl yh s b_11101001001) (n:Nat) (s0:By) (from1 i2:Int) (l3:LL):G9 1 ((P6 lf).keep 4) (bd (P6 lf) cl yh (cd [1,1,1,0,1,0,0] (S7 [1,1,1,0,1,0,0,1,0,0,1] b_11101001001 Fq))) n ⟨gp [(0,pS s0),(2,.fl 0),(0,pI from1),(0,pI i2)] 30,[.arr true 9 1 l3],s⟩ k =
 Q6 lf n s0 from1 i2 l3 (λl0=>k (.exit 0) ⟨gp [(3,.fl 0)] 32,[.arr true 9 1 l0],s⟩):=by
 induction n generalizing s0 from1 i2 l3 with
 | zero=>rfl
 | succ n ih=>rw [Q6];exact let K0:=(M3 1 (N1 (P6 lf) cl yh (cd [1,1,1,0,1,0,0,1,1] Fq) (lpK 1 ((P6 lf).keep 4) (bd (P6 lf) cl yh (cd [1,1,1,0,1,0,0] (S7 [1,1,1,0,1,0,0,1,0,0,1] b_11101001001 Fq))) n k)));(Eq.trans (by kernel_rfl) (A1 (A1 (A1 (A1 (ih s0 from1 (A4 (i2+1)) l3) ((h_words_j0 K0 s0 from1 i2 (not (Vo (bAt s0 i2))) l3).trans (congr rfl (fx4 λs'0 from'1 i'2 l'3=>(Eq.trans (by kernel_rfl) (ih s'0 from'1 (A4 (i'2+1)) l'3)))))) rfl) ((h_words_j0 K0 s0 from1 i2 false l3).trans (congr rfl (fx4 λs'4 from'5 i'6 l'7=>(Eq.trans (by kernel_rfl) (ih s'4 from'5 (A4 (i'6+1)) l'7)))))) rfl))
noncomputable def LA {R:Type} (lf:Nat) (s0:By) (k0:LL->(List Blk)->Option R):Option R:=Q6 lf lf s0 0 0 [] (λl'8=>k0 l'8 [])
theorem Ao8 (b_11101001001:Code) (h_words_j0:Ll (R:=PV × List Blk × σ) lf cl yh s b_11101001001) (s0:By):A8 (P6 lf) cl yh (cd [] (S7 [1,1,1,0,1,0,0,1,0,0,1] b_11101001001 Fq)) ⟨[pS s0]++tps 35,[],s⟩ (K9 (P6 lf) Tryz.f51)=LA lf s0 (λl0 H1=>some (.fl 0,(.arr true 9 1 l0::H1),s)):=by
 unfold LA;exact (Eq.trans (by kernel_rfl) ((LC lf cl yh s (M3 0 (N1 (P6 lf) cl yh (cd [1,1,1,1] Fq) (K9 (P6 lf) Tryz.f51))) b_11101001001 h_words_j0 lf s0 0 0 []).trans (by kernel_rfl)))
theorem Ao9 (d:Nat) (s0):evC (P6 lf) (d+1) σ yh 51 [pS s0] [] s=LA lf s0 (λl0 H1=>some (.fl 0,(.arr true 9 1 l0::H1),s)):=
 (evE (fn:=Tryz.f51) (by kernel_rfl)).trans (Eq.trans (by kernel_rfl) (Ao8 lf (evC (P6 lf) d) yh s (cd [1,1,1,0,1,0,0,1,0,0,1] Fq) (LB lf (evC (P6 lf) d) yh s) s0))
noncomputable abbrev VG (s0:By):Option (PV × List Blk × Unit):=LA LF s0 (λl0 H1=>some (.fl 0,(.arr true 9 1 l0::H1),()))
noncomputable def Ae0 (lf:Nat):Cfg:=D2 lf [84] (A3 []) [(111,CA)] (A3 [(1,[4]),(0,[0,0])]) [111] (A3 []) (some [4]) [] [] []
noncomputable def eqf {R:Type} (lf:Nat) (a0 b1:By) (k0:Bool->Option R):Option R:=cond (A2 a0.length) (cond (A2 b1.length) (k0 ((C5 a0)==(C5 b1))) none) none
theorem A94 (d:Nat) (a0 b1):evC (Ae0 lf) (d+1) σ yh 84 [pS a0,pS b1] [] s=eqf lf a0 b1 (λr0=>some (pB r0,[],s)):=by
 refine (evE (fn:=Tryz.f84) (by kernel_rfl)).trans ?_
 generalize evC (Ae0 lf) d=cl
 unfold eqf;kernel_rfl
noncomputable abbrev MM:Code:=F0 Tryz.f52
noncomputable def Hs (lf:Nat):Cfg:=D2 lf [52] (A3 []) [(84,A57),(85,GR)] (A3 [(8,[2,0]),(5,[2,0]),(7,[2,0]),(6,[0,1,1,29]),(4,[0,1,1,0,23]),(3,[0,1,1,0]),(2,[2,0]),(1,[0,1,17]),(0,[0,1])]) [84] (A3 [(0,[0,1,1])]) (some [2,0]) [] [] []
noncomputable def Jo {R:Type} (w2:LL) (k0:Int->By->Bool->(List Blk)->Option R):Option R:=cond (inR 0 w2.length) (cond (okE Iu w2 0 0) (cond (A2 (List.length (gX w2 0 0))) (vl (↑(F5.kind ((D9 (gX w2 0 0))).1):Int) λn'12=>vl (F5.name ((D9 (gX w2 0 0))).1) λs'13=>vl (↑(F5.v4 ((D9 (gX w2 0 0))).1):Int) λn'14=>vl (↑(List.getD (F5.v6 ((D9 (gX w2 0 0))).1) 0 0):Int) λn'15=>vl (↑(List.getD (F5.v6 ((D9 (gX w2 0 0))).1) 1 0):Int) λn'16=>vl (↑(List.getD (F5.v6 ((D9 (gX w2 0 0))).1) 2 0):Int) λn'17=>vl (↑(List.getD (F5.v6 ((D9 (gX w2 0 0))).1) 3 0):Int) λn'18=>vl (↑(List.getD (F5.v6 ((D9 (gX w2 0 0))).1) 4 0):Int) λn'19=>vl (↑(List.getD (F5.v6 ((D9 (gX w2 0 0))).1) 5 0):Int) λn'20=>vl (↑(List.getD (F5.v6 ((D9 (gX w2 0 0))).1) 6 0):Int) λn'21=>vl (↑(List.getD (F5.v6 ((D9 (gX w2 0 0))).1) 7 0):Int) λn'22=>vl (↑((D9 (gX w2 0 0))).2:Int) λn'23=>cond (n'23 != 0) (k0 n'23 ([]:List UInt8) false [(Blk.box [(PV.s (SV.int .i64 n'12)),(PV.s (SV.str s'13)),(PV.s (SV.int .u32 n'14)),(PV.s (SV.int .u16 n'15)),(PV.s (SV.int .u16 n'16)),(PV.s (SV.int .u16 n'17)),(PV.s (SV.int .u16 n'18)),(PV.s (SV.int .u16 n'19)),(PV.s (SV.int .u16 n'20)),(PV.s (SV.int .u16 n'21)),(PV.s (SV.int .u16 n'22))])]) (cond (n'12 != 1) (k0 14 ([]:List UInt8) false [(Blk.box [(PV.s (SV.int .i64 n'12)),(PV.s (SV.str s'13)),(PV.s (SV.int .u32 n'14)),(PV.s (SV.int .u16 n'15)),(PV.s (SV.int .u16 n'16)),(PV.s (SV.int .u16 n'17)),(PV.s (SV.int .u16 n'18)),(PV.s (SV.int .u16 n'19)),(PV.s (SV.int .u16 n'20)),(PV.s (SV.int .u16 n'21)),(PV.s (SV.int .u16 n'22))])]) (k0 0 s'13 ((w2.length:Int)==2) [(Blk.box [(PV.s (SV.int .i64 n'12)),(PV.s (SV.str s'13)),(PV.s (SV.int .u32 n'14)),(PV.s (SV.int .u16 n'15)),(PV.s (SV.int .u16 n'16)),(PV.s (SV.int .u16 n'17)),(PV.s (SV.int .u16 n'18)),(PV.s (SV.int .u16 n'19)),(PV.s (SV.int .u16 n'20)),(PV.s (SV.int .u16 n'21)),(PV.s (SV.int .u16 n'22))])]))) none) none) none
abbrev AD (b:Code):Prop:=∀ (k:Out->St σ->Option R) w_z0 w_t1 w2 b3,A8 (Hs lf) cl yh b ⟨gp [(0,.s (.sl w_z0 w_t1 1 w2)),(1,.ptr 0 0 0),(17,pB b3)] 24,[.box [pS ([]:List UInt8),pB false]],s⟩ k=Jo w2 (λn0 s1 b2 H3=>k .ret ⟨gp [(2,.ptr 0 0 0),(0,pI n0)] 41,(.box [pS s1,pB b2]::H3),s⟩)
theorem QU:AD (R:=R) lf cl yh s (cd [1,1] MM):=by
 intro k w_z0 w_t1 w2 b3;unfold Jo;kernel_rfl
noncomputable def Al3 {R:Type} (lf:Nat) (w_z0 w_t1:Bool) (w2:LL) (k0:By->Bool->Int->(List Blk)->Option R):Option R:=cond (ltI 2 (w2.length:Int)) (k0 ([]:List UInt8) false 4 [(Blk.box [(PV.s (SV.str ([]:List UInt8))),(PV.s (SV.bool false))])]) (cond ((w2.length:Int)==2) (cond (inR 1 w2.length) (cond (okE Iu w2 1 0) (cond (A2 (List.length (gX w2 1 0))) (cond (not ((C5 (gX w2 1 0))==(C5 ([105,110,99,108,117,100,101,45,115,117,98,100,111,109,97,105,110,115]:List UInt8)))) (k0 ([]:List UInt8) false 4 [(Blk.box [(PV.s (SV.str ([]:List UInt8))),(PV.s (SV.bool false))])]) (Jo w2 (λn'24 s'25 b'26 H'27=>k0 s'25 b'26 n'24 ((Blk.box [(PV.s (SV.str s'25)),(PV.s (SV.bool b'26))])::H'27)))) none) none) none) (Jo w2 (λn'28 s'29 b'30 H'31=>k0 s'29 b'30 n'28 ((Blk.box [(PV.s (SV.str s'29)),(PV.s (SV.bool b'30))])::H'31))))
theorem A13 (b_11:Code) (h_pent_j0:AD (R:=PV × List Blk × σ) lf cl yh s b_11) (w_z0 w_t1:Bool) (w2:LL):A8 (Hs lf) cl yh (cd [] (S7 [1,1] b_11 MM)) ⟨[.s (.sl w_z0 w_t1 1 w2)]++tps 44,[],s⟩ (K9 (Hs lf) Tryz.f52)=Al3 lf w_z0 w_t1 w2 (λr0 r1 r2 H3=>some (.tup [.agg [pS r0,pB r1],pI r2],H3,s)):=by
 unfold Al3;exact let K0:=(K9 (Hs lf) Tryz.f52);(Eq.trans (by kernel_rfl) (A1 rfl (A1 (A1 (A1 (A1 (A1 rfl ((h_pent_j0 K0 w_z0 w_t1 w2 (not ((C5 (gX w2 1 0))==(C5 ([105,110,99,108,117,100,101,45,115,117,98,100,111,109,97,105,110,115]:List UInt8))))).trans (by kernel_rfl))) rfl) rfl) rfl) ((h_pent_j0 K0 w_z0 w_t1 w2 false).trans (by kernel_rfl)))))
theorem A14 (d:Nat) (w_z0 w_t1 w2):evC (Hs lf) (d+1) σ yh 52 [.s (.sl w_z0 w_t1 1 w2)] [] s=Al3 lf w_z0 w_t1 w2 (λr0 r1 r2 H3=>some (.tup [.agg [pS r0,pB r1],pI r2],H3,s)):=
 (evE (fn:=Tryz.f52) (by kernel_rfl)).trans (Eq.trans (by kernel_rfl) (A13 lf (evC (Hs lf) d) yh s (cd [1,1] MM) (QU lf (evC (Hs lf) d) yh s) w_z0 w_t1 w2))
noncomputable abbrev Al4 (w_z0 w_t1:Bool) (w2:LL):Option (PV × List Blk × Unit):=Al3 LF w_z0 w_t1 w2 (λr0 r1 r2 H3=>some (.tup [.agg [pS r0,pB r1],pI r2],H3,()))
noncomputable abbrev Ox:Code:=F0 Tryz.f23
noncomputable def Ci (lf:Nat):Cfg:=D2 lf [23] (A3 []) [(49,On),(50,Kk),(51,DE),(52,MB)] (A3 [(17,[2,0,0]),(16,[2,0,0,0,0]),(15,[2,0,0]),(14,[2,0,0,0,0,2,0,29]),(13,[2,0,0,0,0,2,0]),(12,[2,0,0]),(11,[2,0,0,0,0,1,23]),(10,[2,0,0,0,0,1,20]),(9,[2,0,0,0,0,1]),(8,[2,0,0,0,0,0]),(7,[2,0,0,0,0,0]),(6,[2,0,0,0,0,0]),(5,[2,0,0,0,0,8]),(4,[0,1,0,0,0,0]),(3,[0,1,0,0,0]),(2,[2,0,0]),(1,[0,1,0,0,8]),(0,[0,1,0,0])]) [50] (A3 [(0,[2,0,0,0]),(1,[2,0,0,0,0])]) (some [2,0,0]) [] [(106,Fm)] [] (nt:=[(23,0,63,2)]) (fr:=[(12,[0,1],[1]),(15,[0,2],[1])])
noncomputable def Nh {R:Type} (lf:Nat) (x'0:By) (xs:List By) (self:LL->Int->Option R) (l0:LL) (n1:Int) (k0:LL->Int->Option R) (k1:Blk->Int->LL->Blk->Blk->Blk->(List Blk)->Option R) (k2:Blk->Int->Int->LL->Blk->Blk->Blk->Blk->(List Blk)->Option R):Option R:=cond (A2 x'0.length) (vl ((Lib.cut x'0 ([35]:List UInt8))).1 λs'3=>vl (((Lib.cut x'0 ([35]:List UInt8))).2).1 λs'4=>cond (A2 s'3.length) (cond ((↑(List.length (D3 (G7 s'3))):Int)==0) (self l0 (A4 (n1+1))) (cond ((l0.length:Int)==1000) (k1 (Blk.arr true 63 2 []) (A4 (n1+1)) l0 (Blk.box [PV.bad]) (Blk.box [PV.bad]) (Blk.box [PV.bad]) []) (cond (List.all (D3 (G7 s'3)) isS) (cond (A2 (List.length (D3 (G7 s'3)))) (cond (List.all (List.map elS (D3 (G7 s'3))) smL) (cond (not (List.isEmpty (D3 (G7 s'3)))) (vl (((Bh (List.map elS (D3 (G7 s'3))))).1).1 λs'7=>vl (↑((Bh (List.map elS (D3 (G7 s'3))))).2:Int) λn'8=>cond (n'8 != 0) (k2 (Blk.arr true 63 2 []) (A4 (n1+1)) n'8 l0 (Blk.box [PV.bad]) (Blk.box [PV.bad]) (Blk.box [PV.bad]) (Blk.box [(PV.s (SV.str s'7)),(PV.s (SV.bool (((Bh (List.map elS (D3 (G7 s'3))))).1).2))]) []) (cond (K4 (l0.length+1)) (vl (l0++[[(SV.str s'7),(SV.bool (((Bh (List.map elS (D3 (G7 s'3))))).1).2)]]) λl'9=>self l'9 (A4 (n1+1))) none)) none) none) none) none))) none) none
noncomputable def Gm {R:Type} (lf:Nat) (L:List By) (l0:LL) (n1:Int) (k0:LL->Int->Option R) (k1:Blk->Int->LL->Blk->Blk->Blk->(List Blk)->Option R) (k2:Blk->Int->Int->LL->Blk->Blk->Blk->Blk->(List Blk)->Option R):Option R:=Bc0 (α:=LL->Int->Option R) (λl0 n1=>k0 l0 n1) (λx'0 xs self l0 n1=>Nh lf x'0 xs self l0 n1 k0 k1 k2) L l0 n1
theorem AF {R:Type} (lf:Nat) (x'0:By) (xs:List By) (l0:LL) (n1:Int) (k0:LL->Int->Option R) (k1:Blk->Int->LL->Blk->Blk->Blk->(List Blk)->Option R) (k2:Blk->Int->Int->LL->Blk->Blk->Blk->Blk->(List Blk)->Option R):Gm lf (x'0::xs) l0 n1 k0 k1 k2=Nh lf x'0 xs (λl0 n1=>Gm lf xs l0 n1 k0 k1 k2) l0 n1 k0 k1 k2:=rfl
theorem RC (L:List By) (l0:LL) (n1:Int):R4 #[16] (gp [(2,.ptr 1 0 0),(0,.ptr 2 0 0),(0,.ptr 3 0 0),(0,.ptr 5 0 0),(0,.ptr 6 0 0),(8,.fnr (Fn.func 106) [] [.bad,.bad,.bad])] 32) (bd (Ci lf) cl yh (cd [1,1,1,1,0,1,0,0] Ox)) (bd (Ci lf) cl yh (cd [1,1,1,1,0,1,0,1] Ox)) (L.map (λ(x'0:By)=>([pS x'0]:List PV))) [.arr true 63 2 [],.box [.fl 0],.box [pI (0:Int)],.box [pI (0:Int)],.arr true 63 2 l0,.box [.fl 4],.box [pI n1],.dead,.dead,.dead] s (rgK (gp [(2,.ptr 1 0 0),(0,.ptr 2 0 0),(0,.ptr 3 0 0),(0,.ptr 5 0 0),(0,.ptr 6 0 0),(8,.fnr (Fn.func 106) [] [.bad,.bad,.bad])] 32) (λH=>S9 H [8,7,9] [.box [.bad],.box [.bad],.box [.bad]]) k) =
 Gm lf L l0 n1 (λl0 n1=>k .normal ⟨gp [(2,.ptr 1 0 0),(0,.ptr 2 0 0),(0,.ptr 3 0 0),(0,.ptr 5 0 0),(0,.ptr 6 0 0),(8,.fnr (Fn.func 106) [] [.bad,.bad,.bad])] 32,[.arr true 63 2 [],.box [.fl 0],.box [pI (0:Int)],.box [pI (0:Int)],.arr true 63 2 l0,.box [.fl 4],.box [pI n1],.box [.bad],.box [.bad],.box [.bad]],s⟩) (λB0 n1 l2 B3 B4 B5 H6=>k .ret ⟨gp [(2,.ptr 1 0 0),(0,.ptr 2 0 0),(0,.ptr 3 0 0),(0,.ptr 5 0 0),(0,.ptr 6 0 0),(8,.fnr (Fn.func 106) [] [.bad,.bad,.bad])] 32,(B0::.box [.fl 10]::.box [pI n1]::.box [pI (3:Int)]::.arr true 63 2 l2::.box [.fl 4]::.box [pI n1]::B3::B4::B5::.arr true 0 0 []::H6),s⟩) (λB0 n1 n2 l3 B4 B5 B6 B7 H8=>k .ret ⟨gp [(2,.ptr 1 0 0),(0,.ptr 2 0 0),(0,.ptr 3 0 0),(0,.ptr 5 0 0),(0,.ptr 6 0 0),(8,.fnr (Fn.func 106) [] [.bad,.bad,.bad])] 32,(B0::.box [.fl 11]::.box [pI n1]::.box [pI n2]::.arr true 63 2 l3::.box [.fl 4]::.box [pI n1]::B4::B5::B6::B7::.arr true 0 0 []::H8),s⟩):=by
 induction L generalizing l0 n1 with
 | nil=>rfl
 | cons x'0 xs ih=>rw [AF];unfold Nh;exact (Eq.trans (by kernel_rfl) (A1 (C2 λs'3=>(C2 λs'4=>(A1 (A1 (ih l0 (A4 (n1+1))) (A1 rfl (A1 (A1 (A1 (A1 (C2 λs'7=>(C2 λn'8=>(A1 rfl (A1 (C2 λl'9=>(ih l'9 (A4 (n1+1)))) rfl)))) rfl) rfl) rfl) rfl))) rfl))) rfl))
noncomputable def Su {R:Type} (lf:Nat) (s0:By) (k0:LL->Int->Option R) (k1:Blk->Int->LL->Blk->Blk->Blk->(List Blk)->Option R) (k2:Blk->Int->Int->LL->Blk->Blk->Blk->Blk->(List Blk)->Option R):Option R:=cond ((A2 s0.length)&&((1==1)&&((0:Int)==0))) (Gm lf (pcs (List.getD ([10]:List UInt8) 0 0) s0) [] 0 k0 k1 k2) none
abbrev AE (b:Code):Prop:=∀ (k:Out->St σ->Option R) s0,A8 (Ci lf) cl yh b ⟨gp [(2,.ptr 1 0 0),(0,.ptr 2 0 0),(0,.ptr 3 0 0),(0,.ptr 5 0 0),(0,.ptr 6 0 0),(8,.fnr (Fn.func 106) [] [.ptr 8 0 0,.ptr 7 0 0,.ptr 9 0 0])] 32,[.arr true 63 2 [],.box [.fl 0],.box [pI (0:Int)],.box [pI (0:Int)],.arr true 63 2 [],.box [.fl 4],.box [pI (0:Int)],.box [pS s0],.box [pS ([10]:List UInt8)],.box [pI (0:Int)]],s⟩ k=Su lf s0 (λl0 n1=>k .normal ⟨gp [(2,.ptr 1 0 0),(0,.ptr 2 0 0),(0,.ptr 3 0 0),(0,.ptr 5 0 0),(0,.ptr 6 0 0),(8,.fnr (Fn.func 106) [] [.bad,.bad,.bad])] 32,[.arr true 63 2 [],.box [.fl 0],.box [pI (0:Int)],.box [pI (0:Int)],.arr true 63 2 l0,.box [.fl 4],.box [pI n1],.box [.bad],.box [.bad],.box [.bad]],s⟩) (λB0 n1 l2 B3 B4 B5 H6=>k .ret ⟨gp [(2,.ptr 1 0 0),(0,.ptr 2 0 0),(0,.ptr 3 0 0),(0,.ptr 5 0 0),(0,.ptr 6 0 0),(8,.fnr (Fn.func 106) [] [.bad,.bad,.bad])] 32,(B0::.box [.fl 10]::.box [pI n1]::.box [pI (3:Int)]::.arr true 63 2 l2::.box [.fl 4]::.box [pI n1]::B3::B4::B5::.arr true 0 0 []::H6),s⟩) (λB0 n1 n2 l3 B4 B5 B6 B7 H8=>k .ret ⟨gp [(2,.ptr 1 0 0),(0,.ptr 2 0 0),(0,.ptr 3 0 0),(0,.ptr 5 0 0),(0,.ptr 6 0 0),(8,.fnr (Fn.func 106) [] [.bad,.bad,.bad])] 32,(B0::.box [.fl 11]::.box [pI n1]::.box [pI n2]::.arr true 63 2 l3::.box [.fl 4]::.box [pI n1]::B4::B5::B6::B7::.arr true 0 0 []::H8),s⟩)
theorem RA:AE (R:=R) lf cl yh s (cd [1,1,1,1,0,1,0] Ox):=by
 intro k s0;unfold Su;exact ((A70 [1,1,1,1,0,1,0] (by kernel_rfl)).trans (by kernel_rfl)).trans (Wb (RC lf cl yh s k (pcs (List.getD ([10]:List UInt8) 0 0) s0) [] 0))
noncomputable def Al7 {R:Type} (lf:Nat) (text0:By) (k0:Blk->Blk->Blk->Blk->(List Blk)->Option R) (k1:Blk->Blk->Blk->Blk->LL->(List Blk)->Option R) (k2:Int->Blk->Blk->Blk->Blk->Blk->Blk->Blk->Blk->Blk->Blk->(List Blk)->Option R) (k3:Int->Int->Blk->Blk->Blk->Blk->Blk->Blk->Blk->Blk->Blk->Blk->Blk->(List Blk)->Option R):Option R:=cond (ltI 524288 (text0.length:Int)) (k0 (Blk.arr true 63 2 []) (Blk.box [(PV.fl 4)]) (Blk.box [(PV.s (SV.int .i64 (0:Int)))]) (Blk.box [(PV.s (SV.int .i64 (3:Int)))]) []) (Su lf text0 (λl'10 n'11=>k1 (Blk.arr true 63 2 []) (Blk.box [(PV.fl 4)]) (Blk.box [(PV.s (SV.int .i64 (0:Int)))]) (Blk.box [(PV.s (SV.int .i64 (0:Int)))]) l'10 [(Blk.box [(PV.fl 4)]),(Blk.box [(PV.s (SV.int .i64 n'11))]),(Blk.box [PV.bad]),(Blk.box [PV.bad]),(Blk.box [PV.bad])]) (λB'12 n'13 l'14 B'15 B'16 B'17 H'18=>k2 n'13 B'12 (Blk.box [(PV.fl 10)]) (Blk.box [(PV.s (SV.int .i64 n'13))]) (Blk.box [(PV.s (SV.int .i64 (3:Int)))]) (Blk.arr true 63 2 l'14) (Blk.box [(PV.fl 4)]) (Blk.box [(PV.s (SV.int .i64 n'13))]) B'15 B'16 B'17 H'18) (λB'19 n'20 n'21 l'22 B'23 B'24 B'25 B'26 H'27=>k3 n'20 n'21 B'19 (Blk.box [(PV.fl 11)]) (Blk.box [(PV.s (SV.int .i64 n'20))]) (Blk.box [(PV.s (SV.int .i64 n'21))]) (Blk.arr true 63 2 l'22) (Blk.box [(PV.fl 4)]) (Blk.box [(PV.s (SV.int .i64 n'20))]) B'23 B'24 B'25 B'26 H'27))
theorem A19 (b_1111010:Code) (h_pprs_e1:AE (R:=PV × List Blk × σ) lf cl yh s b_1111010) (text0:By):A8 (Ci lf) cl yh (cd [] (S7 [1,1,1,1,0,1,0] b_1111010 Ox)) ⟨[pS text0]++tps 47,[],s⟩ (K9 (Ci lf) Tryz.f23)=Al7 lf text0 (λB0 B1 B2 B3 H4=>some (.tup [.fl 4,pI (0:Int),pI (3:Int)],(B0::B1::B2::B3::.arr true 0 0 []::H4),s)) (λB0 B1 B2 B3 l4 H5=>some (.tup [.fl 4,pI (0:Int),pI (0:Int)],(B0::B1::B2::B3::.arr true 63 2 l4::H5),s)) (λr0 B1 B2 B3 B4 B5 B6 B7 B8 B9 B10 H11=>some (.tup [.fl 10,pI r0,pI (3:Int)],(B1::B2::B3::B4::B5::B6::B7::B8::B9::B10::.arr true 0 0 []::H11),s)) (λr0 r1 B2 B3 B4 B5 B6 B7 B8 B9 B10 B11 B12 H13=>some (.tup [.fl 11,pI r0,pI r1],(B2::B3::B4::B5::B6::B7::B8::B9::B10::B11::B12::.arr true 0 0 []::H13),s)):=by
 unfold Al7;exact (Eq.trans (by kernel_rfl) (A1 rfl ((h_pprs_e1 (M3 0 (N1 (Ci lf) cl yh (cd [1,1,1,1,1] Ox) (K9 (Ci lf) Tryz.f23))) text0).trans (by kernel_rfl))))
theorem A20 (d:Nat) (text0):evC (Ci lf) (d+1) σ yh 23 [pS text0] [] s=Al7 lf text0 (λB0 B1 B2 B3 H4=>some (.tup [.fl 4,pI (0:Int),pI (3:Int)],(B0::B1::B2::B3::.arr true 0 0 []::H4),s)) (λB0 B1 B2 B3 l4 H5=>some (.tup [.fl 4,pI (0:Int),pI (0:Int)],(B0::B1::B2::B3::.arr true 63 2 l4::H5),s)) (λr0 B1 B2 B3 B4 B5 B6 B7 B8 B9 B10 H11=>some (.tup [.fl 10,pI r0,pI (3:Int)],(B1::B2::B3::B4::B5::B6::B7::B8::B9::B10::.arr true 0 0 []::H11),s)) (λr0 r1 B2 B3 B4 B5 B6 B7 B8 B9 B10 B11 B12 H13=>some (.tup [.fl 11,pI r0,pI r1],(B2::B3::B4::B5::B6::B7::B8::B9::B10::B11::B12::.arr true 0 0 []::H13),s)):=
 (evE (fn:=Tryz.f23) (by kernel_rfl)).trans (Eq.trans (by kernel_rfl) (A19 lf (evC (Ci lf) d) yh s (cd [1,1,1,1,0,1,0] Ox) (RA lf (evC (Ci lf) d) yh s) text0))
noncomputable abbrev Al8 (text0:By):Option (PV × List Blk × Unit):=Al7 LF text0 (λB0 B1 B2 B3 H4=>some (.tup [.fl 4,pI (0:Int),pI (3:Int)],(B0::B1::B2::B3::.arr true 0 0 []::H4),())) (λB0 B1 B2 B3 l4 H5=>some (.tup [.fl 4,pI (0:Int),pI (0:Int)],(B0::B1::B2::B3::.arr true 63 2 l4::H5),())) (λr0 B1 B2 B3 B4 B5 B6 B7 B8 B9 B10 H11=>some (.tup [.fl 10,pI r0,pI (3:Int)],(B1::B2::B3::B4::B5::B6::B7::B8::B9::B10::.arr true 0 0 []::H11),())) (λr0 r1 B2 B3 B4 B5 B6 B7 B8 B9 B10 B11 B12 H13=>some (.tup [.fl 11,pI r0,pI r1],(B2::B3::B4::B5::B6::B7::B8::B9::B10::B11::B12::.arr true 0 0 []::H13),()))
noncomputable abbrev TM:Code:=F0 Tryz.f25
noncomputable def Ft (lf:Nat):Cfg:=D2 lf [25] (A3 [(4,[0,0,2,0])]) [] (A3 [(8,[4]),(5,[0,0,3]),(7,[4]),(6,[0,0,3,19]),(4,[0,0,3,8]),(3,[0,0,3]),(2,[4]),(1,[0,0,8]),(0,[0,0])]) [] (A3 [(0,[]),(1,[0,0,3])]) (some [4]) [] [] []
noncomputable def Cq {R:Type} (lf n:Nat) (a_z0 a_t1:Bool) (a2:LL) (b_z3 b_t4:Bool) (b5:LL) (i6:Int) (k0:Unit->Option R) (k1:Unit->Option R):Option R:=match n with | 0=>none | n+1=>cond (ltI i6 (a2.length:Int)) (cond (inR i6 a2.length) (cond (okE ⟨true,true,[.str,.bool]⟩ a2 (Int.toNat i6) 0) (cond (inR i6 b5.length) (cond (okE ⟨true,true,[.str,.bool]⟩ b5 (Int.toNat i6) 0) (cond (not (((gX a2 (Int.toNat i6) 0)==(gX b5 (Int.toNat i6) 0))&&(((gY a2 (Int.toNat i6) 1)==(gY b5 (Int.toNat i6) 1))&&true))) (k0 ()) (Cq lf n a_z0 a_t1 a2 b_z3 b_t4 b5 (A4 (i6+1)) k0 k1)) none) none) none) none) (k1 ())
theorem JG (n:Nat) (a_z0 a_t1:Bool) (a2:LL) (b_z3 b_t4:Bool) (b5:LL) (i6:Int):G9 0 ((Ft lf).keep 4) (bd (Ft lf) cl yh (cd [1,1,0,1,0,0] TM)) n ⟨gp [(0,.s (.sl a_z0 a_t1 2 a2)),(0,.s (.sl b_z3 b_t4 2 b5)),(3,pI i6)] 20,[],s⟩ k =
 Cq lf n a_z0 a_t1 a2 b_z3 b_t4 b5 i6 (λ_=>k .ret ⟨gp [(4,pB false)] 21,[],s⟩) (λ_=>k (.exit 0) ⟨gp [] 26,[],s⟩):=by
 induction n generalizing a_z0 a_t1 a2 b_z3 b_t4 b5 i6 with
 | zero=>rfl
 | succ n ih=>rw [Cq];simp only [<-ih];kernel_rfl
noncomputable def TY {R:Type} (lf:Nat) (a_z0 a_t1:Bool) (a2:LL) (b_z3 b_t4:Bool) (b5:LL) (k0:Bool->Option R):Option R:=cond ((a2.length:Int) != (b5.length:Int)) (k0 false) (Cq lf lf a_z0 a_t1 a2 b_z3 b_t4 b5 0 (λ_=>k0 false) (λ_=>k0 true))
theorem Aj1 (d:Nat) (a_z0 a_t1 a2 b_z3 b_t4 b5):evC (Ft lf) (d+1) σ yh 25 [.s (.sl a_z0 a_t1 2 a2),.s (.sl b_z3 b_t4 2 b5)] [] s=TY lf a_z0 a_t1 a2 b_z3 b_t4 b5 (λr0=>some (pB r0,[],s)):=by
 refine (evE (fn:=Tryz.f25) (by kernel_rfl)).trans ?_
 generalize evC (Ft lf) d=cl
 unfold TY;exact (Eq.trans (by kernel_rfl) (A1 rfl ((JG lf cl yh s (M3 0 (N1 (Ft lf) cl yh (cd [1,1,1] TM) (K9 (Ft lf) Tryz.f25))) lf a_z0 a_t1 a2 b_z3 b_t4 b5 0).trans (by kernel_rfl))))
end
end
section
open Go Go.Op
set_option maxRecDepth 100000
theorem XK {R:Type} {k0:Bool->Option R} (c:Int):Av9 LF c k0=k0 (XF c):=by unfold Av9 XF;cases (c==32)<;>rfl
theorem OT {R:Type} {k0:Bool->Option R} (c:Int):TW LF c k0=k0 (Vo c):=by unfold TW Vo;cases XF c<;>cases (c==10)<;>cases (c==12)<;>rfl
theorem Ag7 {R:Type} {k0:Bool->Option R} (s p:By) (h0:A2 s.length=true) (h1:A2 p.length=true):eqf LF s p k0=k0 (C5 s==C5 p):=by unfold eqf;rw [h0,h1];rfl
theorem Af4 {s:By} {a b:Nat} (h:a<b) (hb:b<=s.length):(cut s (a:Int) (b:Int)).isEmpty=false:=by
 rw [Fv,List.isEmpty_eq_false_iff]
 intro e
 have:=congrArg List.length e
 simp at this
 omega
theorem SK {R:Type} {k0:LL->Option R} (s:By) (hs:s.length<=1000000000):∀ (r i fr n:Nat) (l:List By),i+r=s.length->r+1<n->fr<=i->l.length<=i->
  Q6 LF n s (fr:Int) (i:Int) (D3 l) k0=k0 (D3 (l++Gt (cut s (fr:Int) (i:Int)) (s.drop i))):=by
 intro r
 induction r with
 | zero=>
  intro i fr n l hi hn hf hl
  obtain ⟨n,rfl⟩:∃ m,n=m+1:=⟨n-1,by omega⟩
  obtain ⟨n,rfl⟩:∃ m,n=m+1:=⟨n-1,by omega⟩
  have hi':i=s.length:=by omega
  subst hi'
  rw [Q6,G4 (by omega),List.drop_length]
  unfold Fj
  have e1:A4 ((s.length:Int)+1)=((s.length+1:Nat):Int):=by rw [A5];rfl
  by_cases hfi:fr<s.length
  ·rw [E0 (by omega),El (by omega) (by omega) (by omega),I2,J3 (by omega),e1]
   simp only [Bool.not_false,cond_true,cond_false]
   rw [Q6,E0 (by omega),Gt,Af4 hfi (Nat.le_refl _)]
   simp only [Bool.not_true,cond_false,Bool.false_eq_true,if_false,Xc]
   rfl
  ·obtain rfl:fr=s.length:=by omega
   rw [G4 (by omega),e1]
   simp only [Bool.not_false,cond_true,cond_false]
   rw [Q6,E0 (by omega),Gt,Ur]
   simp
 | succ r ih=>
  intro i fr n l hi hn hf hl
  obtain ⟨n,rfl⟩:∃ m,n=m+1:=⟨n-1,by omega⟩
  have e1:A4 ((i:Int)+1)=((i+1:Nat):Int):=by rw [A5];rfl
  rw [Q6,G4 (by omega),E0 (by omega),N7 (by omega) (by omega),N8,R1 s i (by omega),e1]
  simp only [Bool.not_false,cond_true]
  unfold Fj
  have hsp:Vo ((s.getD i 0).toNat:Int)=spB (s.getD i 0):=rfl
  rw [hsp]
  cases hb:spB (s.getD i 0) with
  | false=>
   rw [Bool.not_false,cond_true,ih (i+1) fr n l (by omega) (by omega) (by omega) (by omega),Bh7 s fr i hf (by omega)]
   rw [Gt,hb]
   rfl
  | true=>
   rw [Bool.not_true,cond_false,Gt,hb,if_pos rfl]
   by_cases hfi:fr<i
   ·rw [E0 (by omega),El (by omega) (by omega) (by omega),I2,J3 (by omega),e1,Af4 hfi (by omega)]
    simp only [cond_true,Bool.false_eq_true,if_false]
    have:=ih (i+1) (i+1) n (l++[cut s (fr:Int) (i:Int)]) (by omega) (by omega) (by omega) (by simp;omega)
    rw [Ur,List.append_assoc] at this
    rw [e1,show D3 l++[[SV.str (cut s (fr:Int) (i:Int))]]=D3 (l++[cut s (fr:Int) (i:Int)]) by rw [Xc];rfl]
    exact this
   ·obtain rfl:fr=i:=by omega
    rw [G4 (by omega),e1,Ur]
    simp only [cond_false,List.isEmpty_nil,if_true]
    have:=ih (fr+1) (fr+1) n l (by omega) (by omega) (by omega) (by omega)
    rw [Ur] at this
    rw [e1]
    exact this
theorem Ap1 (s:By) (h0:A2 s.length=true):∃ r H,VG s=rv r H/\r.stab [1] H = .s (.sl (List.isEmpty (G7 s)) (List.isEmpty (G7 s)) 1 (D3 (G7 s))):=by
 have hs:=M9 h0
 have hLF:=I4
 have:=SK (k0:=λl=>some (PV.fl 0,[Blk.arr true 9 1 l],())) s hs s.length 0 0 LF [] (by omega) (by omega) (by omega) (by simp)
 unfold VG LA
 refine ⟨_,_,this,?_⟩
 rw [Ur,List.nil_append,List.drop_zero]
 show PV.stab [1] [Blk.arr true _ 1 (D3 (G7 s))] (.fl 0)=_
 simp only [PV.stab,Mh,PV.snap,List.headD_cons,List.getElem?_cons_zero,Bool.true_and]
 have:(D3 (G7 s)).isEmpty=(G7 s).isEmpty:=by cases G7 s<;>rfl
 rw [this]
 rfl
end
section
open Go Go.Proofs Go.RowKit Go.Shelf
set_option maxRecDepth 100000
def Am5:Ren:=⟨λn=>match n with | 167=>71 | n=>Tryz.lays156_ren.f n,Tryz.lays156_ren.t,Tryz.lays156_ren.g⟩
theorem Aw7:Lays.n167 Tryz.prog Am5:={
 mixed:=Tryz.lays156.mixed,f167:=by kernel_rfl,f240:=Tryz.lays156.f240,f276:=Tryz.lays156.f276
 t0:=Tryz.lays156.t0,a0:=Tryz.lays156.a0,z0:=Tryz.lays156.z0,v0:=Tryz.lays156.v0
 t4:=Tryz.lays156.t4,a4:=Tryz.lays156.a4,z4:=Tryz.lays156.z4,v4:=Tryz.lays156.v4
 t5:=Tryz.Builder_Extra_156.t5,a5:=Tryz.Builder_Extra_156.a5,z5:=Tryz.Builder_Extra_156.z5,v5:=Tryz.Builder_Extra_156.v5
 t9:=Tryz.lays156.t9,a9:=Tryz.lays156.a9,z9:=Tryz.lays156.z9,v9:=Tryz.lays156.v9
 t20:=Tryz.lays156.t20,a20:=Tryz.lays156.a20,z20:=Tryz.lays156.z20,v20:=Tryz.lays156.v20
 t37:=Tryz.lays156.t37,a37:=Tryz.lays156.a37,z37:=Tryz.lays156.z37,v37:=Tryz.lays156.v37
 t70:=Tryz.lays156.t70,a70:=Tryz.lays156.a70,z70:=Tryz.lays156.z70,v70:=Tryz.lays156.v70
 t72:=Tryz.lays156.t72,a72:=Tryz.lays156.a72,z72:=Tryz.lays156.z72,v72:=Tryz.lays156.v72
 t75:=Tryz.lays156.t75,a75:=Tryz.lays156.a75,z75:=Tryz.lays156.z75,v75:=Tryz.lays156.v75
 t164:=Tryz.lays156.t164,a164:=Tryz.lays156.a164,z164:=Tryz.lays156.z164,v164:=Tryz.lays156.v164 }
theorem Ag9:Builder.Extra Tryz.prog Am5:={
 sizeBuilder:=by kernel_rfl
 liesBuilder:=by kernel_rfl
 t5:=Tryz.Builder_Extra_156.t5
 a5:=Tryz.Builder_Extra_156.a5
 z5:=Tryz.Builder_Extra_156.z5
 v5:=Tryz.Builder_Extra_156.v5
 infoByte:=by kernel_rfl
 cellsByte:=by kernel_rfl
 sizeByte:=by kernel_rfl
 neB5:=by decide }
abbrev isB (B b:Nat) (l:List UInt8) (w:World):Prop:=Lib.IsBuilderF 112 5 B b (Lib.byteCells l) w
abbrev Bi4 (b:Nat) (w w':World):Prop:=Lib.OthersKept 5 (some b) w w'
theorem A65 (B b:Nat) (l:List UInt8) (s:ByteArray) (w:World) (h:isB B b l w) (hlen:l.length+s.size<=140737488355328) (hBw:B<=w.heap.size) :
  Calls Tryz.prog 70 #[.pointer (some ⟨b,0,none⟩),.string s] w λe w'=>e = .returned (.tuple #[.int .i64 s.size,.nilIface])/\isB B b (l++s.data.toList) w'/\Below B w w'/\Bi4 b w w':=by
 refine (Any.Builder_WriteString_k { Tryz.lays156 with } Tryz.Builder_Extra_156 B b (Lib.byteCells l) s w h (by rw [Lib.byteCells_length];exact hlen) hBw).mono ?_
 rintro e w' ⟨rfl,h1,h2,h3⟩
 rw [Lib.strCells_eq,<-Lib.byteCells_append] at h1
 exact ⟨rfl,Or.inr h1,h2,h3⟩
theorem Ac5 (B b:Nat) (l:List UInt8) (w:World) (h:isB B b l w) (hlen:l.length+1<=140737488355328) (hBw:B<=w.heap.size) :
  Calls Tryz.prog 71 #[.pointer (some ⟨b,0,none⟩),.int .u8 10] w λe w'=>e = .returned .nilIface/\isB B b (l++[10]) w'/\Below B w w'/\Bi4 b w w':=by
 refine (Any.Builder_WriteByte_k Aw7 Ag9 B b (Lib.byteCells l) 10 w h (by rw [Lib.byteCells_length];exact hlen) hBw).mono ?_
 rintro e w' ⟨rfl,h1,h2,h3⟩
 refine ⟨rfl,Or.inr ?_,h2,h3⟩
 rw [Lib.byteCells_append]
 exact h1
theorem Bh6 (B b:Nat) (l:List UInt8) (w:World) (h:isB B b l w) (hBw:B<=w.heap.size) :
  Calls Tryz.prog 72 #[.pointer (some ⟨b,0,none⟩)] w λe w'=>e = .returned (.string ⟨l.toArray⟩)/\Below B w w':=by
 refine (Any.Builder_String_any_k { Tryz.lays156 with } Tryz.Builder_Extra_156 B b l w h hBw).mono ?_
 rintro e w' ⟨rfl,_,h2,_⟩
 exact ⟨rfl,h2⟩
theorem Ba3 {B b:Nat} {l:List UInt8} {w:World} (h:isB B b l w):b<w.heap.size:=by
 rcases h with h | h
 ·exact Lib.BuilderAtF.lt h
 ·exact Lib.BuilderAtF.lt h
theorem Ic {p:Prop} (h:p):Hid p:=h
def A54 (xs:List (ByteArray × Bool)) (a:Addr) (A:Option Addr) (c:Nat) (w:World):Prop:=
 a.block<w.heap.size/\w.cell? a=some (.slice A xs.length c)/\∀ i x,xs[i]? = some x->∃ bk o,A=some ⟨bk,o,none⟩/\bk<w.heap.size/\w.cell? ⟨bk,o+i*2,none⟩=some (.string x.1)/\w.cell? ⟨bk,o+i*2+1,none⟩=some (.bool x.2)
set_option maxHeartbeats 4000000 in theorem ZW (V:Value) (c:Int) (hc:c≠0) (w:World)
  (hN:Calls Tryz.prog 26 #[V] w λe w1=>e = .returned (.tuple #[.pointer none,.int .i64 c])/\Below w.heap.size w w1) :
  Calls Tryz.prog 34 #[V] w λe w'=>e = .returned (.tuple #[.string ⟨#[]⟩,.int .i64 c])/\Below w.heap.size w w':=by
 have eN:∀ args w,(callFunc 26 args).run Tryz.prog w = .ok (.enter 26 args) w:=enters_of Tryz.func26 (by kernel_rfl) rfl
 have hc':(c==0)=false:=by simpa using hc
 go_enter Tryz.func34,Tryz.ntmps34
 go_wp2_with fail
 refine hN.mono ?_
 rintro e w1 ⟨rfl,hb⟩
 have Hb:=Ic hb
 clear hb
 go_wp2
 go_ret2
 exact ⟨rfl,Hb.out⟩
set_option maxHeartbeats 4000000 in theorem Ao5 (V:Value) (xs:List (ByteArray × Bool)) (w:World) (hn:xs.length<=1000000) (hlen:(Av (xs.map λx=>(x.1.data.toList,x.2))).length<=1000000000)
  (hN:Calls Tryz.prog 26 #[V] w λe w1=>∃ a A c,e = .returned (.tuple #[.pointer (some a),.int .i64 0])/\A54 xs a A c w1/\Below w.heap.size w w1) :
  Calls Tryz.prog 34 #[V] w λe w'=>e = .returned (.tuple #[.string ⟨(Av (xs.map λx=>(x.1.data.toList,x.2))).toArray⟩,.int .i64 0])/\Below w.heap.size w w':=by
 have eN:∀ args w,(callFunc 26 args).run Tryz.prog w = .ok (.enter 26 args) w:=enters_of Tryz.func26 (by kernel_rfl) rfl
 have eS:∀ args w,(callFunc 70 args).run Tryz.prog w = .ok (.enter 70 args) w:=enters_of Tryz.func70 (by kernel_rfl) rfl
 have eB:∀ args w,(callFunc 71 args).run Tryz.prog w = .ok (.enter 71 args) w:=enters_of Tryz.func71 (by kernel_rfl) rfl
 have eG:∀ args w,(callFunc 72 args).run Tryz.prog w = .ok (.enter 72 args) w:=enters_of Tryz.func72 (by kernel_rfl) rfl
 have Hlen:=Ic hlen
 clear hlen
 go_enter Tryz.func34,Tryz.ntmps34
 go_wp2_with fail
 refine hN.mono ?_
 rintro e w1 ⟨a,A,c,rfl,⟨ha,hsl,hx⟩,hb⟩
 have Hb:=Ic hb
 have Hx:=Ic hx
 have hal:(w1.alloc (.cells #[.pointer none,.slice none 0 0] 112)).cell? a=some (.slice A xs.length c):=by
  rw [(((Below.refl w1.heap.size w1).alloc (Nat.le_refl _) _)).cell ha];exact hsl
 clear hb hx hN
 go_wp2_with fail
 go_loopw [22] (λi wr=>∃ k:Nat,k<=xs.length/\i = .int .i64 k/\Hid (isB w1.heap.size w1.heap.size (Av ((xs.map λx=>(x.1.data.toList,x.2)).take k)) wr)/\Hid (Below w1.heap.size w1 wr)) (λi _=>xs.length-(intOf i).toNat)
 case atStart=>exact ⟨0,Nat.zero_le _,rfl,Lib.IsBuilderF.of (Lib.fresh_isBuilder _ _ w1),(Below.refl w1.heap.size w1).alloc (Nat.le_refl _) _⟩
 case round=>
  obtain ⟨k,hk,rfl,HB,HW⟩:=hrel
  by_cases hkn:k<xs.length
  ·obtain ⟨x,hxk⟩:∃ x,xs[k]? = some x:=⟨xs[k],List.getElem?_eq_getElem hkn⟩
   obtain ⟨bk,o,rfl,hbk,c1,c2⟩:=Hx.out k x hxk
   have c1':wr.cell? ⟨bk,o+k*2,none⟩=some (.string x.1):=by rw [HW.out.cell (p:=⟨bk,o+k*2,none⟩) hbk];exact c1
   have c2':wr.cell? ⟨bk,o+k*2+1,none⟩=some (.bool x.2):=by rw [HW.out.cell (p:=⟨bk,o+k*2+1,none⟩) hbk];exact c2
   have hB1:w1.heap.size<=wr.heap.size:=HW.out.size
   have hbl:w1.heap.size<wr.heap.size:=Ba3 HB.out
   have hL:((xs.map λx=>(x.1.data.toList,x.2)))[k]? = some (x.1.data.toList,x.2):=by rw [List.getElem?_map,hxk];rfl
   have hstep:Av ((xs.map λx=>(x.1.data.toList,x.2)).take (k+1))=Av ((xs.map λx=>(x.1.data.toList,x.2)).take k)++x.1.data.toList++(if x.2 then Gy else [])++[10]:=WR hL
   have hlek:(Av ((xs.map λx=>(x.1.data.toList,x.2)).take (k+1))).length<=1000000000:=Nat.le_trans (Au5 _ _) Hlen.out
   have hsz:x.1.size=x.1.data.toList.length:=Lib.size_eq _
   rw [hstep] at hlek
   simp only [List.length_append] at hlek
   have Hstep:=Ic hstep
   generalize Av ((xs.map λx=>(x.1.data.toList,x.2)).take k)=L0 at *
   have hy:((wr.alloc (.cells #[.string x.1,.bool x.2] 63)).heap)[wr.heap.size]? = some (.cells #[.string x.1,.bool x.2] 63 (0,0)):=heap_alloc_new wr _
   have HBa:=Ic (Lib.IsBuilderF.alloc HB.out (.cells #[.string x.1,.bool x.2] 63))
   have Hbw:=Ic ((HW.out).alloc hB1 (.cells #[.string x.1,.bool x.2] 63))
   have HY:=Ic hy
   clear hstep hL HB HW hy
   go_wp2_with fail
   refine (A65 w1.heap.size w1.heap.size L0 x.1 _ HBa.out (by omega) (Nat.le_trans hB1 (by simp))).mono ?_
   rintro e w3 ⟨rfl,h3,hb3,hk3⟩
   have hy3:w3.heap[wr.heap.size]? = some (.cells #[.string x.1,.bool x.2] 63 (0,0)):=hk3 _ _ HY.out (by simp;omega) (λc fz h=>by cases h)
   have cy3:w3.cell? ⟨wr.heap.size,1,none⟩=some (.bool x.2):=by rw [Lib.cell_of_heap hy3];rfl
   have H3:=Ic h3
   have Hb3:=Ic (Hbw.out.trans hb3)
   have hs3:w1.heap.size<=w3.heap.size:=Hb3.out.size
   clear h3 hb3 hk3 hy3
   obtain ⟨xn,xb⟩:=x
   cases xb with
   | false=>
    go_wp2_with fail
    refine (Ac5 w1.heap.size w1.heap.size _ _ H3.out (by rw [List.length_append];omega) hs3).mono ?_
    rintro e w4 ⟨rfl,h4,hb4,hk4⟩
    have H4:=Ic h4
    have Hb4:=Ic (Hb3.out.trans hb4)
    clear h4 hb4 hk4
    go_wp2
    refine ⟨⟨k+1,by omega,by go_num,?_,Hb4⟩,by simp [intOf];omega⟩
    rw [Hstep.out]
    simpa using H4
   | true=>
    go_wp2_with fail
    refine (A65 w1.heap.size w1.heap.size _ ⟨#[32,105,110,99,108,117,100,101,45,115,117,98,100,111,109,97,105,110,115]⟩ _ H3.out (by rw [List.length_append];have:(⟨#[32,105,110,99,108,117,100,101,45,115,117,98,100,111,109,97,105,110,115]⟩:ByteArray).size=19:=rfl;omega) hs3).mono ?_
    rintro e w5 ⟨rfl,h5,hb5,hk5⟩
    have H5:=Ic h5
    have Hb5:=Ic (Hb3.out.trans hb5)
    have hs5:w1.heap.size<=w5.heap.size:=Hb5.out.size
    clear h5 hb5 hk5
    go_wp2_with fail
    refine (Ac5 w1.heap.size w1.heap.size _ _ H5.out (by simp only [List.length_append,List.length_cons,List.length_nil];omega) hs5).mono ?_
    rintro e w4 ⟨rfl,h4,hb4,hk4⟩
    have H4:=Ic h4
    have Hb4:=Ic (Hb5.out.trans hb4)
    clear h4 hb4 hk4
    go_wp2
    refine ⟨⟨k+1,by omega,by go_num,?_,Hb4⟩,by simp [intOf];omega⟩
    rw [Hstep.out]
    exact H4
  ·have hke:k=xs.length:=by omega
   subst hke
   have hB1:w1.heap.size<=wr.heap.size:=HW.out.size
   have hall:(xs.map λx=>(x.1.data.toList,x.2)).take xs.length=xs.map λx=>(x.1.data.toList,x.2):=List.take_of_length_le (by simp)
   rw [hall] at HB
   go_wp2_with fail
   refine (Bh6 w1.heap.size w1.heap.size _ wr HB.out hB1).mono ?_
   rintro e w6 ⟨rfl,hb6⟩
   have Hb6:=Ic ((Hb.out.trans (HW.out.mono Hb.out.size)).trans (hb6.mono Hb.out.size))
   clear hb6
   go_wp2
   go_ret2
   exact ⟨rfl,Hb6.out⟩
end
section
open Go
def QX (ns:List Nat) (ret:PV) (H:List Blk):Bool:=decide ns.Nodup&&(ns.all (λb=>Nat.blt b H.length)&&(Ae H ns&&ret.nms.all λb=>ns.contains b))
theorem V7.pick {C:Cfg} {Γ:Ctx} {w w':World} {ret:PV} {Hc:List Blk} {V:Value} {ns:List Nat} (h:V7 C I0 Γ [] w noΦ ret Hc () V w') (hok:QX ns ret Hc=true) :
  V7 C I0 Γ [] w noΦ (ret.rn (E6 ns)) (K7 Hc ns) () V w':=by
 obtain ⟨Γ1,Φ1,hs,hH1,hv,hvn,hi1,hd1⟩:=h
 simp only [QX,Bool.and_eq_true,decide_eq_true_eq,List.all_eq_true,Nat.blt_eq,List.contains_iff_mem] at hok
 obtain ⟨hnd,hlt,hcl,hr⟩:=hok
 have hnm:∀ i g,(Γ1.lent ns).nm i=some g->∃ b,Γ1.nm b=some g:=λi g h=>by
  simp only [Ctx.lent] at h
  cases hi:ns[i]? with
  | none=>rw [hi] at h;simp at h
  | some b=>rw [hi] at h;exact ⟨b,h⟩
 have hlen:(K7 Hc ns).length=ns.length:=by simp [K7]
 refine ⟨Γ1.lent ns,Φ1,⟨hs.os,hs.tape,hs.output,hs.size,hs.sub,hs.stnew,λc g h=>?_,hs.foot,hs.frame,hs.yv,Nat.zero_le _,λc hc=>by simp at hc⟩,
  EP hH1 hnd hlt hcl,?_,λc hc=>?_,hi1,λc g h=>?_⟩
 ·obtain ⟨b,hb⟩:=hnm c g h
  rcases hs.own b g hb with ⟨q,_⟩ | q
  ·simp at q
  ·exact .inr q
 ·refine VP.rn (Γ:=Γ1) (Γ':=Γ1.lent ns) rfl hv (.inr λ_ h=>h) λc hc=>?_
  obtain ⟨q1,q2⟩:=T9 (hr c hc)
  exact ⟨Je (hr c hc),by rw [Fb hlt q1,q2]⟩
 ·rw [PV.rn_nms] at hc
  obtain ⟨d,hd,rfl⟩:=List.mem_map.1 hc
  rw [hlen]
  exact (T9 (hr d hd)).1
 ·obtain ⟨b,hb⟩:=hnm c g h
  exact hd1 b g hb
theorem Yf {C₀:Cfg} {g:Nat} {pf:List PV->Tr} (hX:XOK C₀) (hO:Ax C₀) (hm:C₀.P.follows .mixedOrders=true)
  (h:∀ args ret Hc,F6 (pf args)=some (ret,Hc)->C1 args=[]/\∃ d r H0 ns,evC C₀ d Unit noY g args [] ()=some (r,H0,())/\QX ns r H0=true/\r.rn (E6 ns)=ret/\K7 H0 ns=Hc):A7 C₀.P C₀.G g pf:=by
 intro args ret Hc hpf C hP hGe Γ w Vs hnm hH hG hc
 obtain ⟨hna,d,r,H0,ns,hev,hok,rfl,rfl⟩:=h args ret Hc hpf
 have h0:=Ap (C₀:=C₀) (g:=g) (pf:=λa=>match evC C₀ d Unit noY g a [] () with | some (r,H,_)=>cond (C1 a).isEmpty (.ret r H) .fail | none=>.fail) hX hO hm (λa r H hr=>by
  split at hr
  ·rename_i r' H' _ he
   cases hn:(C1 a).isEmpty with
   | true=>
    rw [hn] at hr
    simp only [cond_true,F6,X9,Option.some.injEq,Prod.mk.injEq] at hr
    grind
   | false=>rw [hn] at hr;cases hr
  ·cases hr)
 exact (h0 args r H0 (by dsimp only;rw [hev];dsimp only;rw [hna];rfl) C hP hGe Γ w Vs hnm hH hG hc).mono λV w' hR=>hR.pick hok
theorem Xp {P:Program} {f:Nat} {fn:Func} {Vs:Array Value} {w:World} {R:Value->World->Prop} (hf:P.funcs[f]? = some fn) (hb:fn.body.isSome=true) (hn:(fn.name == "runtime.NumGoroutine")=false)
  (h:K5 P ((callFunc f Vs).run P w) R):Calls P f Vs w λe w'=>∃ V,e = .returned V/\R V w':=by
 obtain ⟨c,hb⟩:=Option.isSome_iff_exists.1 hb
 have hrun:(callFunc f Vs).run P w = .ok (.enter f Vs) w:=by
  have hn':¬ fn.name = "runtime.NumGoroutine":=by simpa using hn
  simp [callFunc,hf,hb,hn',Result.andThen]
 rw [hrun] at h
 have h1:=h none 1 { (default:Oper) with dst:=some 0 } ({ tmps:=#[undef],defers:=[] }:Act) (λa' w'=>∃ V,a'=({ tmps:=#[undef],defers:=[] }:Act).put (some 0) V/\R V w') (λ_ _ _=>False) (λV w' hR=>⟨V,rfl,hR⟩)
 simp only [Oper.uponIn_enter] at h1
 have key:CallsIn Fence.wide (1-1) P f Vs w _:=h1.2
 refine (callsIn_wide.1 key).mono ?_
 intro e w' he
 cases e with
 | returned v=>
  obtain ⟨V,e1,hR⟩:=he
  have e2:(#[v]:Array Value) = #[V]:=congrArg Act.tmps e1
  have:v=V:=by simpa using e2
  subst this
  exact ⟨_,rfl,hR⟩
 | panicked c=>exact he.elim
 | outgrown=>exact absurd he (by simp [LetsOut])
end
section
open Go Go.Proofs Go.RowKit
set_option maxRecDepth 100000
theorem Bc6 {St:Nat->Prop} {w:World} {l:By} {V:Value} (h:VS St w (.str l) V):V = .string ⟨l.toArray⟩:=by
 cases h with
 | str s=>rfl
theorem As1 {St:Nat->Prop} {w:World} {b:Bool} {V:Value} (h:VS St w (.bool b) V):V = .bool b:=by
 cases h with
 | bool b=>rfl
def Ye (S:List Ent):List (ByteArray × Bool):=S.map λe=>(⟨e.1.toArray⟩,e.2)
theorem KZ (S:List Ent):((Ye S).map λx=>(x.1.data.toList,x.2))=S:=by
 unfold Ye
 rw [List.map_map]
 exact List.map_id'' (λ_=>rfl) S
theorem Ax4 {Γ:Ctx} {w:World} {z:Bool} {S:List Ent} {V:Value} (hlt:∀ g,Γ.St g->g<w.heap.size) (h:VS Γ.St w (.sp [[.sl z z 2 (D7 S)]] 0 0) V):∃ a A c,V = .pointer (some a)/\A54 (Ye S) a A c w:=by
 cases h with
 | sp _ _ _ g off sz Vs hg hl hc hv=>
  have c0:=hc 0 (by simp) 0 (by simp)
  have v0:=hv 0 (by simp) 0 (by simp)
  simp only [List.getElem_cons_zero] at v0
  generalize hV0:Vs 0 0=V0 at c0 v0
  have hlen:(Ye S).length=S.length:=List.length_map ..
  have hget:∀ i x,(Ye S)[i]? = some x->∃ h:i<(D7 S).length,(D7 S)[i]=[.str x.1.data.toList,.bool x.2]:=λi x hx=>by
   have h1:i<S.length:=by have:=(List.getElem?_eq_some_iff.1 hx).1;rw [hlen] at this;exact this
   refine ⟨by rw [C9];exact h1,?_⟩
   simp only [Ye,List.getElem?_map,List.getElem?_eq_getElem h1,Option.map_some,Option.some.injEq] at hx
   subst hx
   simp [D7,Md]
  generalize hE:D7 S=E at v0 hget
  have hEl:E.length=S.length:=by rw [<-hE];exact C9 S
  cases v0 with
  | nil=>
   refine ⟨_,none,0,rfl,hlt g hg,?_,λi x hx=>?_⟩
   ·rw [show (Ye S).length=0 by rw [hlen,<-hEl];rfl];exact c0
   ·obtain ⟨h,_⟩:=hget i x hx
    simp at h
  | emp _ _ a cap ht hm=>
   refine ⟨_,some a,cap,rfl,hlt g hg,?_,λi x hx=>?_⟩
   ·rw [show (Ye S).length=0 by rw [hlen,<-hEl];rfl];exact c0
   ·obtain ⟨h,_⟩:=hget i x hx
    simp at h
  | sl _ _ g2 off2 n cap sz2 Vs2 hn hcap hm ht hg2 hl2 hc2 hv2=>
   refine ⟨_,some ⟨g2,off2,none⟩,cap,rfl,hlt g hg,?_,λi x hx=>?_⟩
   ·rw [hlen,<-hEl,<-hn];exact c0
   ·obtain ⟨h,he⟩:=hget i x hx
    have e0:0<(E[i]).length:=by rw [he];simp
    have e1:1<(E[i]).length:=by rw [he];simp
    have q0:=hc2 i h 0 e0
    have q1:=hc2 i h 1 e1
    have r0:=hv2 i h 0 e0
    have r1:=hv2 i h 1 e1
    simp only [he,List.getElem_cons_zero,List.getElem_cons_succ] at r0 r1
    rw [Bc6 r0] at q0
    rw [As1 r1] at q1
    exact ⟨g2,off2,rfl,hlt g2 hg2,q0,q1⟩
theorem Be9:A7 Tryz.prog GX 34 LV:=by
 refine A7.fix (pf:=BU) _ (K2 (fn:=Tryz.f34) (by kernel_rfl) (by kernel_rfl) (by kernel_rfl) ?_)
 intro args ret Hc h
 unfold BU at h
 split at h
 ·rename_i l_z l_t l
  obtain ⟨h0,h⟩:=C6 h
  obtain ⟨h1,h⟩:=C6 h
  obtain ⟨h2,h⟩:=C6 h
  obtain ⟨h3,h⟩:=C6 h
  obtain ⟨h4,h⟩:=C6 h
  have hup:∀ (C:Cfg),C.P=Tryz.prog->C.G=GX->∀ (Γ:Ctx) (w:World) (U:Value),GOK C Γ.St w->(∀ g,Γ.St g->g<w.heap.size)->VP Γ (A0 []) w (.s (.sl l_z l_t 2 l)) U->∀ ret,F6 (BX [.s (.sl l_z l_t 2 l)])=some (ret,[])->
    Calls Tryz.prog 26 #[U] w λe w1=>∃ V,e = .returned V/\Below w.heap.size w w1/\∃ Γ':Ctx,(∀ g,Γ'.St g->g<w1.heap.size)/\VP Γ' (A0 []) w1 ret V:=λC hP hCG Γ w U hG hlt hu ret hr=>by
   have hu':VP { Γ with nm:=λ_=>none } (A0 []) w (.s (.sl l_z l_t 2 l)) U:=VP.s _ _ hu.inv_s
   have:=Bf1 [.s (.sl l_z l_t 2 l)] ret [] hr C hP hCG { Γ with nm:=λ_=>none } w #[U] (λ_=>rfl) (Dd (λ_=>rfl) hlt) hG ⟨rfl,λj hj=>by
    have:j=0:=by simpa using hj
    subst this
    exact ⟨U,rfl,hu'⟩⟩
   refine (Xp (fn:=Tryz.f26) (by kernel_rfl) (by kernel_rfl) (by kernel_rfl) this).mono ?_
   rintro e w1 ⟨V,rfl,Γ',Φ',hs,hH',hv,_,_,_⟩
   exact ⟨V,rfl,⟨hs.os,hs.tape,hs.output,hs.size,λg hg=>hs.frame g hg (λb h=>by cases h) (λx=>x)⟩,Γ',hH'.stlt,hv⟩
  rcases Nv h with ⟨h5,h⟩ | ⟨h5,h⟩
  ·obtain ⟨rfl,rfl⟩:=G1 h
   refine ⟨rfl,rfl,λC hP hCG Γ w Vs hG hlt hc=>?_⟩
   obtain ⟨U,rfl,hu⟩:=hc.arr1
   have hr:F6 (BX [.s (.sl l_z l_t 2 l)])=some (.tup [.s (.sp [[.sl l_z l_z 2 (D7 (isE (l.map C3)))]] 0 0),pI 0],[]):=by
    show F6 (Fl [.s (.sl l_z l_t 2 l)])=_
    simp only [Fl,F6,X9,h0,h1,h2,h3,h5,cond_true]
   have hb:(l.map C3).length<=1000:=by
    have h6:=eq_of_beq h5
    unfold P0 at h6
    split at h6
    ·cases h6
    ·omega
   have hS:=(T2 (l.map C3)).length_eq
   refine (Ao5 U (Ye (isE (l.map C3))) w ?_ ?_ ?_).mono ?_
   ·unfold Ye;rw [List.length_map];omega
   ·rw [KZ];exact Nat.le_of_ble_eq_true h4
   ·refine (hup C hP hCG Γ w U hG hlt hu _ hr).mono ?_
    rintro e w1 ⟨V,rfl,hb1,Γ',hlt',hv⟩
    obtain ⟨A,rfl,hA,hcs⟩:=hv.inv_tup
    obtain ⟨U0,e0,k0⟩:=hcs 0 (by simp)
    obtain ⟨U1,e1,k1⟩:=hcs 1 (by simp)
    obtain ⟨a,AA,c,rfl,hl⟩:=Ax4 hlt' k0.inv_s
    obtain rfl:=k1.inv_int
    refine ⟨a,AA,c,?_,hl,hb1⟩
    congr 1
    congr 1
    apply Array.ext_getElem?
    intro i
    match i with
    | 0=>exact e0
    | 1=>exact e1
    | n+2=>rw [Array.getElem?_eq_none (by rw [hA];simp),Array.getElem?_eq_none (by simp)]
   ·rintro e w' ⟨rfl,hb1⟩
    refine ⟨_,rfl,hb1,?_⟩
    rw [KZ]
    exact VP.mk_tup2 (VP.mk_str _) (VP.mk_int _ _)
  ·obtain ⟨rfl,rfl⟩:=G1 h
   refine ⟨rfl,rfl,λC hP hCG Γ w Vs hG hlt hc=>?_⟩
   obtain ⟨U,rfl,hu⟩:=hc.arr1
   have hr:F6 (BX [.s (.sl l_z l_t 2 l)])=some (.tup [.s .nilp,pI (P0 (l.map C3):Nat)],[]):=by
    show F6 (Fl [.s (.sl l_z l_t 2 l)])=_
    simp only [Fl,F6,X9,h0,h1,h2,h3,h5,cond_true,cond_false]
   refine (ZW U (P0 (l.map C3):Nat) ?_ w ?_).mono ?_
   ·have:P0 (l.map C3)≠0:=by simpa using h5
    omega
   ·refine (hup C hP hCG Γ w U hG hlt hu _ hr).mono ?_
    rintro e w1 ⟨V,rfl,hb1,Γ',hlt',hv⟩
    obtain ⟨A,rfl,hA,hcs⟩:=hv.inv_tup
    obtain ⟨U0,e0,k0⟩:=hcs 0 (by simp)
    obtain ⟨U1,e1,k1⟩:=hcs 1 (by simp)
    obtain rfl:=k0.inv_nilp
    obtain rfl:=k1.inv_int
    refine ⟨?_,hb1⟩
    congr 1
    congr 1
    apply Array.ext_getElem?
    intro i
    match i with
    | 0=>exact e0
    | 1=>exact e1
    | n+2=>rw [Array.getElem?_eq_none (by rw [hA];simp),Array.getElem?_eq_none (by simp)]
   ·rintro e w' ⟨rfl,hb1⟩
    exact ⟨_,rfl,hb1,VP.mk_tup2 (VP.mk_str []) (VP.mk_int _ _)⟩
 ·cases h
end
section
open Go Go.Proofs
set_option maxRecDepth 100000
section
theorem Ar0:Lq Tryz.prog GX 36 Lo:=by
 refine X4 (C₀:=Ui LF) (K8.ok (l:=[(60,Kh)]) rfl ⟨GF,trivial⟩) (F2 rfl (by kernel_rfl)) follows ?_
 intro args H ret Hc h
 unfold Lo at h
 split at h
 ·rename_i z l
  obtain ⟨h0,h⟩:=C6 h
  obtain ⟨h1,h⟩:=C6 h
  obtain ⟨h2,h⟩:=C6 h
  obtain ⟨rfl,rfl⟩:=G1 h
  refine ⟨rfl,rfl,λσ yh s=>?_⟩
  have e:=(XU LF yh s 0 z l).trans (JK z l h0 h1 h2)
  exact ⟨1,_,e,rfl⟩
 ·cases h
end
theorem A46:A7 Tryz.prog GX 26 BY:=by
 refine A7.fix (pf:=Tj) _ (Yf (C₀:=Hr LF) (Aq9 (lx:=[(57,Th),(60,Kh)]) (ly:=[]) (ls:=[]) (lz:=[(61,Ki)]) rfl rfl rfl rfl ⟨SP,GF,trivial⟩ trivial trivial ⟨GK,trivial⟩) (F2 rfl (by kernel_rfl)) follows ?_)
 intro args ret Hc h
 unfold Tj at h
 split at h
 ·rename_i l_z l_t l
  obtain ⟨h0,h⟩:=C6 h
  obtain ⟨h1,h⟩:=C6 h
  obtain ⟨h2,h⟩:=C6 h
  obtain ⟨h3,h⟩:=C6 h
  rcases Nv h with ⟨h4,h⟩ | ⟨h4,h⟩
  ·obtain ⟨rfl,rfl⟩:=G1 h
   exact ⟨rfl,1,_,_,[1,0],(So LF noY () 0 l_z l_t l).trans ((Jf l_z l_t l h0 h1 h2 h3).1 (eq_of_beq h4)),rfl,rfl,rfl⟩
  ·obtain ⟨rfl,rfl⟩:=G1 h
   obtain ⟨H,e⟩:=(Jf (R:=PV × List Blk × Unit) l_z l_t l h0 h1 h2 h3).2 (by simpa using h4)
   exact ⟨rfl,1,_,H,[],(So LF noY () 0 l_z l_t l).trans e,rfl,rfl,rfl⟩
 ·cases h
end
section
open Go Go.Op
set_option maxRecDepth 100000
theorem Bl7 (l:List By):(D3 l).map elS=l:=by unfold D3;rw [List.map_map];exact List.map_id'' (λ_=>rfl) _
theorem VE (n:Nat):((n:Int)==2)=(n==2):=by rw [Bool.eq_iff_iff,beq_iff_eq,beq_iff_eq];omega
theorem Ak9 (n:Nat):((n:Int) != 0) = !(n==0):=by rw [Bool.eq_iff_iff,bne_iff_ne,Bool.not_eq_true',beq_eq_false_iff_ne];omega
theorem Bk7 (n:Nat):((n:Int)==0)=(n==0):=by rw [Bool.eq_iff_iff,beq_iff_eq,beq_iff_eq];omega
theorem A02 (n:Nat):((n:Int) != 1) = !(n==1):=by rw [Bool.eq_iff_iff,bne_iff_ne,Bool.not_eq_true',beq_eq_false_iff_ne];omega
theorem QW {R:Type} (W:List By) (hw:0<W.length) (s0:A2 (W.getD 0 []).length=true):∃ H,∀ k0:Int->By->Bool->List Blk->Option R,Jo (D3 W) k0=k0 ((NX W).2:Nat) (NX W).1.1 (NX W).1.2 H:=by
 apply Exists.intro;intro k0
 unfold Jo NX
 rw [N7 (by omega) (by rw [I2];omega),W3 hw,Bj,s0]
 simp only [cond_true,vl,Ak9,A02,I2,VE]
 by_cases h1:(D9 (W.getD 0 [])).2=0
 ·rw [show ((D9 (W.getD 0 [])).2==0)=true by simpa using h1,if_neg (by simpa using h1)]
  by_cases h2:(D9 (W.getD 0 [])).1.kind=1
  ·rw [show ((D9 (W.getD 0 [])).1.kind==1)=true by simpa using h2,if_neg (by simpa using h2)]
   exact rfl
  ·rw [show ((D9 (W.getD 0 [])).1.kind==1)=false by simpa using h2,if_pos h2]
   rfl
 ·rw [show ((D9 (W.getD 0 [])).2==0)=false by simpa using h1,if_pos h1]
  rfl
theorem A15 (z t:Bool) (w:LL) (h0:w.all isS=true) (h1:A2 w.length=true) (h2:List.all (w.map elS) smL=true) (h3:(!w.isEmpty)=true) :
  ∃ r H,Al4 z t w=rv r H/\r.stab [0,0] H = .tup [.agg [pS (Bh (w.map elS)).1.1,pB (Bh (w.map elS)).1.2],pI (Bh (w.map elS)).2]:=by
 have hr:=VB h0
 generalize hW:w.map elS=W at hr h2 ⊢
 subst hr
 have hw:0<W.length:=by
  cases W with
  | nil=>cases h3
  | cons a r=>simp
 have sm:∀ i,i<W.length->A2 (W.getD i []).length=true:=λi hi=>by
  rw [List.getD_eq_getElem?_getD,List.getElem?_eq_getElem hi]
  exact List.all_eq_true.1 h2 _ (List.getElem_mem hi)
 obtain ⟨H,j0⟩:=QW (R:=PV × List Blk × Unit) W hw (sm 0 hw)
 unfold Al4 Al3 Bh
 simp only [I2,Bj,VE,j0,show C5 ([105,110,99,108,117,100,101,45,115,117,98,100,111,109,97,105,110,115]:List UInt8)=C5 Zc from rfl]
 by_cases c1:2<W.length
 ·rw [E0 (by omega),if_pos c1];exact ⟨_,_,rfl,rfl⟩
 rw [G4 (by omega),if_neg c1,cond_false]
 cases c2:(W.length==2) with
 | false=>exact ⟨_,_,rfl,rfl⟩
 | true=>
  have c2:W.length=2:=eq_of_beq c2
  rw [N7 (by omega) (by omega),W3 (by omega),sm 1 (by omega)]
  simp only [cond_true,Bool.true_and]
  cases c3:(C5 (W.getD 1 [])==C5 Zc)<;>exact ⟨_,_,rfl,rfl⟩
abbrev Bh3:Blk:=.arr true 63 2 []
theorem AG {R:Type} (k0:LL->Int->Option R) (k1:Blk->Int->LL->Blk->Blk->Blk->List Blk->Option R) (k2:Blk->Int->Int->LL->Blk->Blk->Blk->Blk->List Blk->Option R):∀ (L:List By) (n:Nat) (out:List Ent),(∀ u∈L,A2 u.length=true)->n+L.length<=1000000000->out.length<=1000->
  (∃ n',Gm LF L (D7 out) (n:Int) k0 k1 k2=k0 (D7 (Fe L n out).1) n'/\(Fe L n out).2=(0,0))\/
  (∃ l B3 B4 B5 H,Gm LF L (D7 out) (n:Int) k0 k1 k2=k1 Bh3 ((Fe L n out).2.1:Nat) l B3 B4 B5 H/\(Fe L n out).1=[]/\(Fe L n out).2.2=3)\/
  (∃ l B3 B4 B5 B6 H,Gm LF L (D7 out) (n:Int) k0 k1 k2=k2 Bh3 ((Fe L n out).2.1:Nat) ((Fe L n out).2.2:Nat) l B3 B4 B5 B6 H/\(Fe L n out).1=[])
 | [],n,out,_,_,_=>.inl ⟨_,rfl,rfl⟩
 | s::r,n,out,hs,hn,ho=>by
  have gs:=hs s (by simp)
  have gc:A2 (Lib.cut s [35]).1.length=true:=G0 (by have:=(IB s).2;have:=M9 gs;omega)
  have e1:A4 ((n:Int)+1)=((n+1:Nat):Int):=by rw [A5];rfl
  have ih:=λout (h:out.length<=1000)=>AG k0 k1 k2 r (n+1) out (λu hu=>hs u (by simp [hu])) (by simp only [List.length_cons] at hn;omega) h
  obtain ⟨w1,w2⟩:=Ap0 gc
  rw [AF]
  unfold Nh Fe
  simp only [vl,gs,gc,cond_true,I2,Bk7,e1,Bl7,An1] at w1 w2 ⊢
  simp only [w1,w2,cond_true,C9]
  generalize G7 (Lib.cut s [35]).1=W
  cases W with
  | nil=>exact ih out ho
  | cons a q=>
   rw [show ((a::q).length==0)=false from rfl,show (a::q).isEmpty=false from rfl,show (D3 (a::q)).isEmpty=false from rfl]
   simp only [cond_false,Bool.not_false,cond_true,Bool.false_eq_true,if_false]
   by_cases c1:out.length=1000
   ·rw [show ((out.length:Int)==1000)=true by rw [beq_iff_eq];omega,if_pos c1]
    exact .inr (.inl ⟨_,_,_,_,_,rfl,rfl,rfl⟩)
   ·rw [show ((out.length:Int)==1000)=false by rw [beq_eq_false_iff_ne];omega,if_neg c1,Ak9]
    by_cases c2:(Bh (a::q)).2=0
    ·rw [show ((Bh (a::q)).2==0)=true by simpa using c2,if_neg (by simpa using c2),J3 (by omega)]
     have:=ih (out++[(Bh (a::q)).1]) (by simp;omega)
     rw [show D7 (out++[(Bh (a::q)).1])=D7 out++[[SV.str (Bh (a::q)).1.1,SV.bool (Bh (a::q)).1.2]] by simp [D7,Md]] at this
     exact this
    ·rw [show ((Bh (a::q)).2==0)=false by simpa using c2,if_pos c2]
     exact .inr (.inr ⟨_,_,_,_,_,_,rfl,rfl⟩)
theorem Aj5 {t:By} (h:t.length<=524288):(∀ u∈pcs 10 t,A2 u.length=true)/\(pcs 10 t).length<=524289:=by
 refine ⟨λu hu=>G0 (by have:=(Z9 hu).2;omega),?_⟩
 rw [Dm]
 have:=List.count_le_length (a:=(10:UInt8)) (l:=t)
 omega
abbrev Bi9 (t:By):PV:=.tup [.s (.sl (List.isEmpty (H7 t).1) (List.isEmpty (H7 t).1) 2 (D7 (H7 t).1)),pI (H7 t).2.1,pI (H7 t).2.2]
theorem At9 (l:List Ent):(D7 l).isEmpty=l.isEmpty:=by cases l<;>rfl
theorem A21 (t:By) (h:A2 t.length=true):∃ r H,Al8 t=rv r H/\r.stab [2,0,0] H=Bi9 t:=by
 unfold Al8 Al7 Bi9 H7
 by_cases c1:524288<t.length
 ·rw [E0 (by omega),if_pos c1]
  exact ⟨_,_,rfl,rfl⟩
 ·rw [G4 (by omega),if_neg c1,cond_false]
  obtain ⟨l1,l2⟩:=Aj5 (t:=t) (by omega)
  unfold Su
  rw [h]
  simp only [show ((1:Nat)==1)=true from rfl,show ((0:Int)==0)=true from rfl,Bool.and_self,cond_true,show ((1:Int)==1)=true from rfl,Bool.true_and]
  rcases AG (R:=PV × List Blk × Unit) _ _ _ (pcs 10 t) 0 [] l1 (by omega) (Nat.zero_le _) with ⟨n',e,k⟩ | ⟨l,B3,B4,B5,H,e,k,k3⟩ | ⟨l,B3,B4,B5,B6,H,e,k⟩
  ·refine ⟨_,_,e,?_⟩
   rw [k]
   show PV.tup [.s (.sl (true&&(D7 (Fe (pcs 10 t) 0 []).1).isEmpty) (true&&(D7 (Fe (pcs 10 t) 0 []).1).isEmpty) 2 (D7 (Fe (pcs 10 t) 0 []).1)),pI 0,pI 0]=_
   rw [At9]
   rfl
  ·refine ⟨_,_,e,?_⟩
   rw [k,k3]
   rfl
  ·refine ⟨_,_,e,?_⟩
   rw [k]
   rfl
theorem Vp {R:Type} (z t z2 t2:Bool) (a b:List Ent) (k0 k1:Unit->Option R) (hab:a.length=b.length) (hl:a.length<=1000000000):∀ (r i m:Nat),i+r=a.length->r<m->Cq LF m z t (D7 a) z2 t2 (D7 b) (i:Int) k0 k1=cond (a.drop i==b.drop i) (k1 ()) (k0 ())
 | 0,i,m,hi,hm=>by
  obtain ⟨m,rfl⟩:∃ q,m=q+1:=⟨m-1,by omega⟩
  rw [Cq,G4 (by rw [C9];omega),List.drop_of_length_le (by omega),List.drop_of_length_le (by omega)]
  rfl
 | r+1,i,m,hi,hm=>by
  obtain ⟨m,rfl⟩:∃ q,m=q+1:=⟨m-1,by omega⟩
  have ha:i<a.length:=by omega
  have hb:i<b.length:=by omega
  have e2:A4 ((i:Int)+1)=((i+1:Nat):Int):=by rw [A5];rfl
  rw [Cq,E0 (by rw [C9];omega),N7 (by omega) (by rw [C9];omega),N7 (by omega) (by rw [C9];omega),Int.toNat_natCast,Ji ha,Ji hb,Gb ha,Gb hb,OB ha,OB hb,e2,Vp z t z2 t2 a b k0 k1 hab hl r (i+1) m (by omega) (by omega),Af noE ha,Af noE hb]
  simp only [cond_true]
  have heq:((a.getD i noE::a.drop (i+1))==(b.getD i noE::b.drop (i+1)))=((((a.getD i noE).1==(b.getD i noE).1)&&(((a.getD i noE).2==(b.getD i noE).2)&&true))&&(a.drop (i+1)==b.drop (i+1))):=by
   rw [Bool.and_true];rfl
  rw [heq]
  cases (((a.getD i noE).1==(b.getD i noE).1)&&(((a.getD i noE).2==(b.getD i noE).2)&&true))<;>rfl
theorem OU {R:Type} {k0:Bool->Option R} (z t:Bool) (l:LL) (z2 t2:Bool) (m:LL) (h0:l.all F1=true) (h1:A2 l.length=true) (h2:m.all F1=true) (h3:A2 m.length=true):TY LF z t l z2 t2 m k0=k0 (l.map C3==m.map C3):=by
 have hLF:=I4
 have ha:=M9 h1
 have hb:=M9 h3
 have r1:=Bi h0
 have r2:=Bi h2
 generalize l.map C3=A at r1 ⊢
 generalize m.map C3=B at r2 ⊢
 subst r1 r2
 rw [C9] at ha hb
 unfold TY
 rw [C9,C9]
 by_cases h:A.length=B.length
 ·rw [show ((A.length:Int) != (B.length:Int))=false by rw [h];simp,cond_false]
  refine Eq.trans (Vp z t z2 t2 A B _ _ h ha A.length 0 LF (by omega) (by omega)) ?_
  rw [List.drop_zero,List.drop_zero]
  cases (A==B)<;>rfl
 ·rw [show ((A.length:Int) != (B.length:Int))=true by rw [bne_iff_ne];omega,cond_true,show (A==B)=false by rw [beq_eq_false_iff_ne];rintro rfl;exact h rfl]
end
section
open Go Go.Proofs
set_option maxRecDepth 100000
section
theorem Be5:A7 Tryz.prog GX 110 Aa8:=xf [] (MY LF) BL rfl trivial rfl (by kernel_rfl) follows λargs=>by
 unfold BL;split
 ·rename_i c;exact ⟨rfl,rfl,rfl,_,_,(Aw0 LF noY () 0 c).trans (XK c ),rfl⟩
 ·trivial
theorem A43:A7 Tryz.prog GX 83 TD:=xf [] (DQ LF) Te rfl ⟨Be5,trivial⟩ rfl (by kernel_rfl) follows λargs=>by
 unfold Te;split
 ·rename_i c;exact ⟨rfl,rfl,rfl,_,_,(Ai9 LF noY () 0 c).trans (OT c ),rfl⟩
 ·trivial
theorem Bk0:A7 Tryz.prog GX 84 A57:=xf [] (Ae0 LF) LN rfl ⟨SQ,trivial⟩ rfl (by kernel_rfl) follows λargs=>by
 unfold LN;split
 ·rename_i s p;exact λh0=>λh1=>⟨rfl,rfl,rfl,_,_,(A94 LF noY () 0 s p).trans (Ag7 s p h0 h1),rfl⟩
 ·trivial
theorem A44:A7 Tryz.prog GX 25 BN:=xf [] (Ft LF) Tf rfl trivial rfl (by kernel_rfl) follows λargs=>by
 unfold Tf;split
 ·rename_i l_z l_t l m_z m_t m;exact λh0=>λh1=>λh2=>λh3=>⟨rfl,rfl,rfl,_,_,(Aj1 LF noY () 0 l_z l_t l m_z m_t m).trans (OU l_z l_t l m_z m_t m h0 h1 h2 h3),rfl⟩
 ·trivial
theorem A50:A7 Tryz.prog GX 51 DE:=xf [1] (P6 LF) Tt rfl ⟨A43,trivial⟩ rfl (by kernel_rfl) follows λargs=>by
 unfold Tt;split
 ·rename_i s;exact λh0=>(let ⟨rr,hH,ee,qq⟩:=Ap1 s h0;⟨rfl,rfl,rfl,rr,hH,(Ao9 LF noY () 0 s).trans ee,qq⟩)
 ·trivial
theorem Bf9:A7 Tryz.prog GX 52 MB:=xf [0,0] (Hs LF) CQ rfl ⟨Bk0,Ap8,trivial⟩ rfl (by kernel_rfl) follows λargs=>by
 unfold CQ;split
 ·rename_i w_z w_t w;exact λh0=>λh1=>λh2=>λh3=>(let ⟨rr,hH,ee,qq⟩:=A15 w_z w_t w h0 h1 h2 h3;⟨rfl,rfl,rfl,rr,hH,(A14 LF noY () 0 w_z w_t w).trans ee,qq⟩)
 ·trivial
theorem Bg1:A7 Tryz.prog GX 23 MC:=by
 refine A7.fix (pf:=CT) _ (P2 [2,0,0] (C₀:=Ci LF) (En (lx:=[(49,On),(50,Kk),(51,DE),(52,MB)]) (ly:=[]) (ls:=[(106,Fm)]) rfl rfl rfl ⟨SW,GG,A50,Bf9,trivial⟩ trivial ⟨GI,trivial⟩) (F2 rfl (by kernel_rfl)) follows ?_)
 intro args ret Hc h
 unfold CT at h
 split at h
 ·rename_i s
  obtain ⟨h0,h⟩:=C6 h
  obtain ⟨rfl,rfl⟩:=G1 h
  obtain ⟨rr,hH,ee,qq⟩:=A21 s h0
  exact ⟨rfl,rfl,rfl,1,rr,hH,(A20 LF noY () 0 s).trans ee,qq⟩
 ·cases h
end
def evX (C:Cfg) (d g:Nat) (args:List PV):Tr:=match evC C d Unit noY g args [] () with
 | some (r,H,_)=>cond (C1 args).isEmpty (.ret r H) .fail
 | none=>.fail
theorem Bm1 {C:Cfg} (d g:Nat) (hX:XOK C) (hO:Ax C) (hm:C.P.follows .mixedOrders=true):A7 C.P C.G g (evX C d g):=
 Ap hX hO hm λargs ret Hc h=>by
  unfold evX at h
  split at h
  ·rename_i r H s e
   cases hn:(C1 args).isEmpty with
   | false=>rw [hn] at h;cases h
   | true=>
    rw [hn] at h
    obtain ⟨rfl,rfl⟩:=G1 h
    exact ⟨List.isEmpty_iff.1 hn,d,e⟩
  ·cases h
def evS (C:Cfg) (d g:Nat) (args:List PV):Tr:=match evC C d Unit noY g args [] () with
 | some (r,H,_)=>cond ((C1 args).isEmpty&&(r.stab [] H).nms.isEmpty) (.ret (r.stab [] H) []) .fail
 | none=>.fail
theorem Bk1 {C:Cfg} (d g:Nat) (hX:XOK C) (hO:Ax C) (hm:C.P.follows .mixedOrders=true):A7 C.P C.G g (evS C d g):=
 P2 [] hX hO hm λargs ret Hc h=>by
  unfold evS at h
  split at h
  ·rename_i r H s e
   cases hn:((C1 args).isEmpty&&(r.stab [] H).nms.isEmpty) with
   | false=>rw [hn] at h;cases h
   | true=>
    rw [hn] at h
    obtain ⟨rfl,rfl⟩:=G1 h
    rw [Bool.and_eq_true] at hn
    exact ⟨List.isEmpty_iff.1 hn.1,rfl,List.isEmpty_iff.1 hn.2,d,r,H,e,rfl⟩
  ·cases h
noncomputable def A67:Cfg:=D2 100000 [85] (λ_=>none) [(112,BH),(114,LP),(115,DD),(93,Ep),(117,Oq),(118,LU),(119,DA)]
noncomputable def A59:List PV->Tr:=evS A67 3 85
theorem Bk2:A7 Tryz.prog GX 85 A59:=Bk1 (C:=A67) 3 _ (K8.ok rfl ⟨SO,Ap6,VR,Qt,AY,Aq0,VQ,trivial⟩) (F2 rfl (by kernel_rfl)) follows
noncomputable def A68:Cfg:=D2 100000 [23,52,51,83,110,84] (λ_=>none)
 [(85,A59),(50,Kk),(49,On),(111,CA)] (S:=[(106,Fm)]) (nt:=[(23,0,63,2)]) (fr:=[(12,[0,1],[1]),(15,[0,2],[1])])
noncomputable def A61:List PV->Tr:=evX A68 6 23
theorem Bk4:A7 Tryz.prog GX 23 A61:=Bm1 (C:=A68) 6 _ (En (ly:=[]) rfl rfl rfl ⟨Bk2,GG,SW,SQ,trivial⟩ trivial ⟨GI,trivial⟩) (F2 rfl (by kernel_rfl)) follows
noncomputable def MS:Cfg:=D2 100000 [22,26,30,28,37] (λ_=>none)
 [(23,A61),(57,Th),(60,Kh),(65,Ab0),(41,Aa7)]
 (S:=[(76,BK)]) (lend:=[26]) (nt:=[(105,0,63,2)]) (Z:=[(61,Ki)])
theorem Aq8:XOK MS:=Aq9 (ly:=[]) rfl rfl rfl rfl ⟨Bk4,SP,GF,Be8,Be4,trivial⟩ trivial ⟨A52,trivial⟩ ⟨GK,trivial⟩
theorem Ac4:Sx (evC MS 8 Unit noY 22 [] [] ())=true:=by kernel_rfl
theorem ZZ:A7 Tryz.prog GX 22 Og:=
 A7.fix (pf:=Kf) _ (by
  have h:=SX (C₀:=MS) Aq8 (F2 rfl (by kernel_rfl)) follows Ac4
  have e:(λargs:List PV=>match args with | []=>Tr.ret (.s (.bool true)) [] | _=>.fail)=Kf:=by
   funext args
   cases args<;>rfl
  rw [<-e]
  exact h)
end
section
open Go Go.ChangeAt Go.ChangeShapes Go.Proofs Go.RowKit Go.WideShapes
set_option maxRecDepth 100000
section
theorem PK (os:Os) (started:os.Started) (H:Type) (enc:TypeId × Value->H) :
  ReturnsInHanded {} Tryz.checked os 10 .any (λw args=>(Rows.preloadRoundTripSpec.pre enc Tryz.prog Tryz.f10 Rows.preloadRoundTripRow.domain false w args/\laidMetH Tryz.prog Ba w)/\sizedMet enc Tryz.prog Tryz.f10 (OpenSpec.ofChange Rows.preloadRoundTripSpec) false w args) (Rows.preloadRoundTripSpec.post enc Tryz.prog Tryz.f10 false true false false):=
 PA started (C:=HQ LF) (tb:=4) rfl rfl (En (lx:=[(12,LT),(22,Og),(26,BY),(34,LV),(23,MC),(25,BN)]) (ly:=[(36,Lo)]) (ls:=[]) rfl rfl rfl ⟨Be7,ZZ,A46,Be9,Bg1,A44,trivial⟩ ⟨Ar0,trivial⟩ trivial) (F2 rfl (by kernel_rfl)) (by kernel_rfl) Tryz.func10 (c:=F0 Tryz.f10) rfl (by kernel_rfl)
  (by
   intro t ht
   obtain rfl:t=23:=by simpa using (show t∈[23] from ht)
   exact ⟨⟨by kernel_rfl,of_decide_eq_true (by kernel_rfl)⟩,by kernel_rfl⟩) rfl (by kernel_rfl) rfl
  (λds hds=>by
   match ds,hds with
   | [d0],_=>rfl)
  #[(.slice none 0 0)] 8 (by kernel_rfl) (by kernel_rfl) (by kernel_rfl)
  (λargs h=>Ay4 args h)
theorem YD:Rows.PreloadRoundTripSaid:=
 OpenClaim.holds_of_wide 10 Tryz.f10 rfl rfl rfl rfl rfl rfl rfl ⟨rfl,rfl,rfl,rfl,rfl⟩ rfl rfl rfl rfl rfl (by kernel_rfl) Tryz.func10 (by kernel_rfl)
  (of_decide_eq_true (by kernel_rfl)) (by unfold Func.isWrapper;first | (rw [if_pos (by decide +kernel)];kernel_rfl) | (rw [if_neg (by decide +kernel)];exact ⟨rfl,rfl⟩))
  (λos started H enc _=>PK os started H enc)
theorem lpr_card:Rows.PreloadRoundTripCardSaid:=
 Claim7.holds_tied_plain_at .later [] [.data,.data,.data,.data,.pinned] true (true, "7afd958ced9ec1c0e92f7929c3d546df191af6d231ea740845f3a84d94481a7c") false YD (λ_ h=>by cases h) (by kernel_rfl) (λ_ h=>by cases h) preloadRoundTrip_row_tie rfl ⟨rfl,rfl⟩ (by kernel_rfl) rfl
  (λf fn hf hfn=>by
   obtain rfl:f=10:=Option.some.inj ((show Tryz.prog.funcNamed "hstsstore/hstsstorelaw24.PreloadRoundTrip" = some 10 by kernel_rfl).symm.trans hf) |>.symm
   obtain rfl:fn=Tryz.f10:=(Option.some.inj (Tryz.func10.symm.trans hfn)).symm
   exact ⟨by kernel_rfl,λj t ht=>by
    have hm:t∈[23]:=Array.mem_toList_iff.2 (Array.mem_of_getElem? ht)
    have hall:([23].all λu=>!Tryz.prog.wantsStandIn u)=true:=by kernel_rfl
    exact (show Tryz.prog.wantsStandIn t=false by simpa using List.all_eq_true.1 hall t hm)⟩)
  (by kernel_rfl)
end
end
#print axioms lpr_card
end Go.Proofs.YtelhbgonncceeaaGreatDoor.E
