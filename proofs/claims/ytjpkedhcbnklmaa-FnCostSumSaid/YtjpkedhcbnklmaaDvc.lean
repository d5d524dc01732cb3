/-
  Own work. The device's functions, plainly.
-/
import Derived.Test.YtjpkedhcbnklmaaPbA
import Derived.Test.YtjpkedhcbnklmaaPln
import Derived.Test.YtjpkedhcbnklmaaD
namespace Go.Pf
open Go Go.Pu
theorem inR_spec (x a b:Int):spec_l01In (x,(a,b))=some (decide (a<=x/\x<=b)):=by
  unfold spec_l01In
  dsimp only
  by_cases h:a<=x
  · rw [dt h,cond_true];by_cases h2:x<=b
    · rw [dt h2,dt ⟨h,h2⟩]
    · rw [df h2,df (fun e=>h2 e.2)]
  · rw [df h,cond_false,df (fun e=>h e.1)]
theorem inR_impl (x a b:Int):impl_inRange (x,(a,b))=some (decide (a<=x/\x<=b)):=inR_spec x a b
def DOk (d:Int×(Int×(Int×Int))):Prop:=(3<=d.1/\d.1<=6)/\(3<=d.2.1/\d.2.1<=6)/\(1<=d.2.2.1/\d.2.2.1<=4)/\(d.2.2.2= -1\/(1<=d.2.2.2/\d.2.2.2<=d.1 - 2))
instance (d:Int×(Int×(Int×Int))):Decidable (DOk d):=by unfold DOk;exact inferInstance
theorem devOk_spec (d:Int×(Int×(Int×Int))):spec_DeviceOk d=some (decide (DOk d)):=by
  obtain ⟨W,H,T,S⟩:=d
  unfold spec_DeviceOk DOk
  simp only [inR_spec,Option.bind_some]
  by_cases h1:3<=W/\W<=6
  · by_cases h2:3<=H/\H<=6
    · by_cases h3:1<=T/\T<=4
      · by_cases h4:S= -1
        · simp [h1,h2,h3,h4]
        · rw [wrap_ok (by omega)]
          simp [h1,h2,h3,h4]
      · simp [h1,h2,h3]
    · simp [h1,h2]
  · simp [h1]
theorem devOk_impl (d:Int×(Int×(Int×Int))):impl_DeviceOk d=some (decide (DOk d)):=devOk_spec d
theorem mul_le36 {a b:Int} (ha:3<=a/\a<=6) (hb:3<=b/\b<=6):9<=a*b/\a*b<=36:=by
  have:a=3\/a=4\/a=5\/a=6:=by omega
  rcases this with rfl | rfl | rfl | rfl<;>omega
theorem grem_nn {a b:Int} (ha:0<=a) (hb:0<b):grem a b=some (a % b):=by
  unfold grem;rw [if_neg (by omega),Int.tmod_eq_emod_of_nonneg ha]
theorem gdiv_nn {a b:Int} (ha:0<=a) (ha2:a<=9223372036854775807) (hb:0<b):gdiv .i64 a b=some (a/b):=by
  have h1:0<=a/b:=Int.ediv_nonneg ha (by omega)
  have h2:a/b<=a:=Int.ediv_le_self _ ha
  unfold gdiv;rw [if_neg (by omega),Int.tdiv_eq_ediv_of_nonneg ha,wrap_ok (by omega)]
def tkp (d:Int×(Int×(Int×Int))) (t:Int):Int:=
  if t % d.1=0\/t/d.1=0\/t % d.1=d.1 - 1\/t/d.1=d.2.1 - 1 then 0 else if t % d.1=d.2.2.2 then 2 else 1
theorem tkp_ge (d:Int×(Int×(Int×Int))) (t:Int):0<=tkp d t:=by
  unfold tkp;split;omega;split<;>omega
def tk (d:Int×(Int×(Int×Int))) (t:Int):Int:=if DOk d/\0<=t/\t<d.1*d.2.1 then tkp d t else -1
theorem tk_spec (d:Int×(Int×(Int×Int))) (t:Int) (ht:t<=9223372036854775807):spec_TileKind (d,t)=some (tk d t):=by
  unfold spec_TileKind tk
  simp only [devOk_spec,Option.bind_some]
  by_cases h:DOk d
  · have hd:=h
    obtain ⟨W,H,T,S⟩:=d
    obtain ⟨h1,h2,h3,h4⟩:=h
    simp only at h1 h2 h3 h4
    have hm:=mul_le36 h1 h2
    simp only [dt hd,Bool.not_true,cond_false]
    rw [wrap_ok (by omega)]
    by_cases h0:t<0
    · rw [dt h0,cond_true,if_neg (by omega)]
    · rw [df h0,cond_false]
      by_cases h5:W*H<=t
      · rw [dt h5,cond_true,if_neg (by omega)]
      · rw [df h5,cond_false,if_pos ⟨hd,by omega,by omega⟩,grem_nn (by omega) (by omega),gdiv_nn (by omega) ht (by omega)]
        simp only [Option.bind_some]
        rw [wrap_ok (by omega),wrap_ok (by omega)]
        unfold tkp
        simp only
        by_cases q1:t % W=0
        · simp [q1]
        by_cases q2:t/W=0
        · simp [q1,q2]
        by_cases q3:t % W=W - 1
        · rw [df q1,cond_false,df q2,cond_false,dt q3,cond_true,if_pos (by simp [q3])]
        by_cases q4:t/W=H - 1
        · rw [df q1,cond_false,df q2,cond_false,df q3,cond_false,dt q4,cond_true,if_pos (by simp [q4])]
        rw [df q1,cond_false,df q2,cond_false,df q3,cond_false,df q4,cond_false,if_neg (by simp [q1,q2,q3,q4])]
        by_cases q5:t % W=S
        · rw [dt q5,cond_true,if_pos q5]
        · rw [df q5,cond_false,if_neg q5]
  · simp [h]
theorem tileKind_impl (d:Int×(Int×(Int×Int))) (t:Int) (h:DOk d) (ht0:0<=t) (ht:t<=9223372036854775807):impl_tileKind (d,t)=some (tkp d t):=by
  unfold impl_tileKind
  obtain ⟨W,H,T,S⟩:=d
  obtain ⟨h1,h2,h3,h4⟩:=h
  simp only at h1 h2 h3 h4
  dsimp only
  rw [grem_nn (by omega) (by omega),gdiv_nn (by omega) ht (by omega)]
  simp only [Option.bind_some]
  rw [wrap_ok (by omega),wrap_ok (by omega)]
  unfold tkp
  simp only
  by_cases q1:t % W=0
  · simp [q1]
  by_cases q3:t % W=W - 1
  · rw [df q1,cond_false,dt q3,cond_true,if_pos (by simp [q3])]
  by_cases q2:t/W=0
  · rw [df q1,cond_false,df q3,cond_false,dt q2,cond_true,if_pos (by simp [q2])]
  by_cases q4:t/W=H - 1
  · rw [df q1,cond_false,df q3,cond_false,df q2,cond_false,dt q4,cond_true,if_pos (by simp [q4])]
  rw [df q1,cond_false,df q3,cond_false,df q2,cond_false,df q4,cond_false,if_neg (by simp [q1,q2,q3,q4])]
  by_cases q5:t % W=S
  · rw [dt q5,cond_true,if_pos q5]
  · rw [df q5,cond_false,if_neg q5]
theorem tileOk_impl (d:Int×(Int×(Int×Int))) (t:Int):impl_tileOk (d,t)=some (decide (DOk d/\0<=t/\t<d.1*d.2.1)):=by
  unfold impl_tileOk
  simp only [devOk_impl,Option.bind_some]
  by_cases h:DOk d
  · have hm:=mul_le36 h.1 h.2.1
    simp only [dt h,cond_true]
    rw [wrap_ok (z:=d.1*d.2.1) (by omega),wrap_ok (by omega),inR_impl,Option.bind_some]
    congr 1
    by_cases q:0<=t/\t<d.1*d.2.1
    · rw [dt (by omega),dt ⟨h,q⟩]
    · rw [df (by omega),df (fun e=>q e.2)]
  · simp [h]
theorem tk_impl (d:Int×(Int×(Int×Int))) (t:Int) (ht:t<=9223372036854775807):impl_TileKind (d,t)=some (tk d t):=by
  unfold impl_TileKind tk
  simp only [tileOk_impl,Option.bind_some]
  by_cases h:DOk d/\0<=t/\t<d.1*d.2.1
  · rw [dt h]
    simp only [Bool.not_true,cond_false]
    rw [tileKind_impl d t h.1 h.2.1 ht,if_pos h];rfl
  · rw [df h,if_neg h];rfl
def per (d:Int×(Int×(Int×Int))):Int:=7+4*d.2.2.1
def nodesN (d:Int×(Int×(Int×Int))):Int:=d.1*d.2.1*per d
def inP (k:Int):Int:=if k=0 then 1 else if k=1 then 5 else if k=2 then 4 else 0
def outP (k:Int):Int:=if k=0 then 1 else if k=1 then 2 else if k=2 then 1 else 0
end Go.Pf
